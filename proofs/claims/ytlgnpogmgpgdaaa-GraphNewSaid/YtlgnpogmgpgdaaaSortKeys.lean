/- slices.SortFunc of [][]byte by bytes.Compare: the keys, rising. -/
import Derived.Test.YtlgnpogmgpgdaaaSortLay
import Derived.Test.YtlgnpogmgpgdaaaSort5
import Derived.Test.YtlgnpogmgpgdaaaMergeCanon2
namespace Go.Proofs.Ytlgnpogmgpgdaaa
set_option linter.unusedSimpArgs false
set_option linter.unusedVariables false
set_option maxRecDepth 100000
open Go.RowKit

/-- a key in memory that no store into the row touches -/
structure KeyE (fe : Nat → Prop) (w : World) where
  addr : Option Addr
  cap : Nat
  txt : List UInt8
  le : txt.length ≤ cap
  most : cap ≤ maxLen
  rd : RdS Rep.u8 fe w addr txt
instance (fe : Nat → Prop) (w : World) : Inhabited (KeyE fe w) := ⟨⟨none, 0, [], Nat.le_refl _, by simp [maxLen], .inl rfl⟩⟩
section
variable {fe : Nat → Prop} {w : World}
def KeyE.val (x : KeyE fe w) : Value := .slice x.addr x.txt.length x.cap
def cfKey (x y : KeyE fe w) : Int := Lib.compareBytes x.txt y.txt
theorem bytes_irrefl (a : List UInt8) : ¬ a < a := List.lt_irrefl a
theorem bytes_trans {a b c : List UInt8} (h : a < b) (k : b < c) : a < c := List.lt_trans h k
theorem bytes_ntrans {a b c : List UInt8} (h : ¬ a < b) (k : ¬ b < c) : ¬ a < c := fun hac => by
  have h1 : b ≤ a := h
  have h2 : c ≤ b := k
  have h3 : c ≤ a := List.le_trans h2 h1
  exact h3 hac
theorem bytes_anti {a b : List UInt8} (h : ¬ a < b) (k : ¬ b < a) : a = b := List.le_antisymm k h
theorem swoKey : Sort.SWO (ltOf (cfKey (fe := fe) (w := w))) where
  irrefl x := decide_eq_false (fun h => bytes_irrefl _ ((cmp_lt _ _).1 h))
  trans x y z h1 h2 := decide_eq_true ((cmp_lt _ _).2 (bytes_trans ((cmp_lt _ _).1 (of_decide_eq_true h1)) ((cmp_lt _ _).1 (of_decide_eq_true h2))))
  ntrans x y z h1 h2 := decide_eq_false (fun h => bytes_ntrans (fun k => of_decide_eq_false h1 ((cmp_lt _ _).2 k)) (fun k => of_decide_eq_false h2 ((cmp_lt _ _).2 k)) ((cmp_lt _ _).1 h))
end
theorem sortWorld_only {α : Type} [Inhabited α] (enc : α → Value) (w : World) (blk off m : Nat) (dk : Array α) (os : Array Obj) : Only (fun k => k = blk) w (sortWorld enc w blk off m dk os) := by
  refine ⟨rfl, rfl, rfl, by simp [sortWorld, Sort.ahead], fun k hk hn => ?_⟩
  unfold sortWorld
  rw [Sort.heap_grow_old _ _ (by simpa [Sort.ahead] using hk)]
  unfold Sort.putRow Sort.mapBlock
  show (w.heap.modify blk _)[k]? = _
  rw [Array.getElem?_modify, if_neg (fun e => hn e.symm)]
theorem keys_of {fe : Nat → Prop} {w : World} : ∀ {L : List (List UInt8)} {css : List (List Value)}, All2 (fun x cs => (Rep.slice Rep.u8).ok w fe x cs) L css → ∃ D : List (KeyE fe w), D.map KeyE.txt = L ∧ css.flatten = D.map KeyE.val
  | _, _, .nil => ⟨[], rfl, rfl⟩
  | _, _, .cons h1 h2 => by
    obtain ⟨D, h3, h4⟩ := keys_of h2
    obtain ⟨a, c, rfl, h5, h6, h7⟩ := h1
    exact ⟨⟨a, c, _, h5, h6, h7⟩ :: D, by rw [List.map_cons, h3], by rw [List.flatten_cons, h4]; rfl⟩
set_option maxHeartbeats 800000 in
theorem key_reads {fe : Nat → Prop} {w : World} {blk off n : Nat} (hfe : ∀ b, fe b → b ≠ blk) : CmpLays1 Try.prog 66 #[] (KeyE.val (fe := fe) (w := w)) cfKey blk off n w := fun m os dk _ x y => by
  have ho := sortWorld_only (KeyE.val (fe := fe) (w := w)) w blk off m dk os
  have hx := (x.rd.only ho (fun b hb _ e => hfe b hb e)).rdU8
  have hy := (y.rd.only ho (fun b hb _ e => hfe b hb e)).rdU8
  exact (bcompare_any _ _ _ _ x.cap y.cap _ hx hy).mono fun e w' ⟨h1, h2⟩ => ⟨h1, 0, #[], by rw [h2]; simp [Sort.grow]; rfl⟩
theorem pairwise_of {α : Type} [Inhabited α] {lt : α → α → Bool} {d : Array α} (h : Sort.SortedIn lt 0 d.size d) : d.toList.Pairwise (fun a b => lt b a = false) := by
  rw [List.pairwise_iff_getElem]
  intro i j hi hj hij
  have := h i j (Nat.zero_le _) hij (by simpa using hj)
  rw [getElem!_pos d j (by simpa using hj), getElem!_pos d i (by simpa using hi)] at this
  simpa using this
set_option maxHeartbeats 1600000 in
theorem inskey_nil (ao : Option Addr) (cap : Nat) (fv : Value) (w : World) : Calls Try.prog 111 #[.slice ao 0 cap, .int .i64 0, .int .i64 0, fv] w fun e w' => e = .returned (.tuple #[]) ∧ w' = w := by
  go_enter Try.func111, Try.ntmps111
  go_wp2_with fail
  refine wp_loop_rounds 1 ?_
  rw [rounds_succ]
  go_wp2_with fail
  (try simp only [Exit.inBlock, Exit.then])
  go_end0
  exact ⟨rfl, rfl⟩
set_option maxHeartbeats 1600000 in
theorem pdqkey_nil (ao : Option Addr) (cap : Nat) (l : Nat) (fv : Value) (w : World) : Calls Try.prog 92 #[.slice ao 0 cap, .int .i64 0, .int .i64 0, .int .i64 l, fv] w fun e w' => e = .returned (.tuple #[]) ∧ w' = w := by
  go_enter Try.func92, Try.ntmps92
  go_wp2_with fail
  refine wp_loop_rounds 1 ?_
  rw [rounds_succ]
  go_wp2_with (go_at_call 111; refine (inskey_nil _ _ _ _).mono ?_; rintro e w' ⟨rfl, rfl⟩)
  (try simp only [Exit.inBlock, Exit.then])
  refine bodyPost_ret (results_none rfl _ _ _) rfl ?_
  exact ⟨rfl, rfl⟩
set_option maxHeartbeats 1600000 in
theorem sortkey_nil (ao : Option Addr) (cap : Nat) (fv : Value) (w : World) : Calls Try.prog 65 #[.slice ao 0 cap, fv] w fun e w' => e = .returned (.tuple #[]) ∧ w' = w := by
  have HL := Lib.hid (fun W => len_any 0 (by omega) W)
  go_enter Try.func65, Try.ntmps65
  go_wp2_with (first
    | (go_at_call 93; refine (HL.out _).mono ?_; rintro e w' ⟨rfl, rfl⟩)
    | (go_at_call 92; refine (pdqkey_nil _ _ _ _ _).mono ?_; rintro e w' ⟨rfl, rfl⟩))
  go_end0
  exact ⟨rfl, rfl⟩
def SortedKeys (L : List (List UInt8)) (ao : Option Addr) (g : Option Nat) (fe : Nat → Prop) (w : World) (e : Ending) (w' : World) : Prop :=
  e = .returned (.tuple #[]) ∧ ∃ M : List (List UInt8), M.Perm L ∧ M.Pairwise (fun a b => ¬ b < a) ∧ RdS (Rep.slice Rep.u8) (fun b => fe b ∨ g = some b) w' ao M ∧ Only (fun k => g = some k) w w'
theorem keysort_any (L : List (List UInt8)) (ao : Option Addr) (cap : Nat) (g : Option Nat) (fe : Nat → Prop) (w : World) (hl : L.length ≤ 1000000) (hO : OwnS (Rep.slice Rep.u8) fe w ao cap g 112 L) (hfe : ∀ b, fe b → g ≠ some b) :
    Calls Try.prog 65 #[.slice ao L.length cap, .func (.func 66) #[] #[]] w (SortedKeys L ao g fe w) := by
  obtain ⟨css, ⟨hlen, hown⟩, hall⟩ := hO
  rcases hown with ⟨rfl, rfl, hn, rfl⟩ | ⟨b, cur, rfl, rfl, hh, hn, hc, hcs, ht⟩
  · obtain rfl := List.eq_nil_of_length_eq_zero hn
    exact (sortkey_nil none 0 _ w).mono fun e w' ⟨h1, h2⟩ => ⟨h1, [], .nil, .nil, .inl rfl, by rw [h2]; exact Only.refl _ _⟩
  · obtain ⟨D, hD, hv⟩ := keys_of hall
    have hDl : D.length = L.length := by rw [← hD, List.length_map]
    have hbl := (Array.getElem?_eq_some_iff.1 hh).1
    have hH : Sort.Holds KeyE.val w b 0 D.toArray := fun j hj => by
      have hj' : j < D.length := by simpa using hj
      refine ⟨?_, by simp [World.frozen?, hh]⟩
      rw [Nat.zero_add, cell_of_row w b j cur _ (0, 0) hh]
      have h1 : css.flatten[j]? = (D.map KeyE.val)[j]? := by rw [hv]
      rw [← ht, List.getElem?_take, if_pos (by show j < L.length * 1; omega)] at h1
      rw [← Array.getElem?_toList, h1, List.getElem?_map, List.getElem?_eq_getElem hj', getElem!_pos D.toArray j hj]
      simp
    have eg : ∀ args w, (callFunc 66 args).run Try.prog w = .ok (.enter 66 args) w := enters_of Try.func66 (by kernel_rfl) rfl
    have h := Any.slices_SortFunc sortKeys KeyE.val (fun x => rfl) cfKey swoKey 66 #[] b 0 cap D.toArray w eg (key_reads (fun k hk e => hfe k hk (by rw [e]))) hH hbl (by simp; omega)
    rw [List.size_toArray, hDl] at h
    refine Calls.mono h ?_
    rintro e w' ⟨rfl, d', n, os, hp, hs, rfl⟩
    refine ⟨rfl, d'.toList.map KeyE.txt, ?_, ?_, ?_, (sortWorld_only _ _ _ _ _ _ _).mono (fun k _ e => by rw [e])⟩
    · have h1 := hp.2.2
      rw [← hD]
      have hsz : d'.size = D.length := by rw [hp.1]; simp
      have e1 : (d'.extract 0 L.length).toList = d'.toList := by rw [Array.toList_extract]; simp [List.extract, ← hDl, ← hsz]; exact List.take_of_length_le (by simp)
      have e2 : (D.toArray.extract 0 L.length).toList = D := by rw [Array.toList_extract]; simp [List.extract, ← hDl]
      rw [e1, e2] at h1
      exact h1.map _
    · have hsz : d'.size = L.length := by rw [hp.1]; simp [hDl]
      rw [← hsz] at hs
      rw [List.pairwise_map]
      exact (pairwise_of hs).imp fun {x y} hxy hlt => of_decide_eq_false hxy ((cmp_lt _ _).2 hlt)
    · have hsz : d'.size = D.toArray.size := hp.1
      have hH' : Sort.Holds KeyE.val (sortWorld KeyE.val w b 0 n d' os) b 0 d' := Sort.holds_grow _ _ _ _ _ _ (by simpa [Sort.ahead] using hbl) (Sort.holds_putRow _ _ _ _ _ _ (Sort.holds_ahead _ _ _ _ _ _ hH) hsz)
      have ho := sortWorld_only (KeyE.val (fe := fe) (w := w)) w b 0 n d' os
      refine .inr ⟨b, 0, rfl, .inr rfl, Nat.lt_of_lt_of_le hbl ho.size, fun j x hx => ?_⟩
      rw [List.getElem?_map] at hx
      cases hd : d'.toList[j]? with
      | none => rw [hd] at hx; cases hx
      | some y =>
        rw [hd] at hx
        cases hx
        obtain ⟨hj, he⟩ := List.getElem?_eq_some_iff.1 hd
        refine ⟨[y.val], ⟨y.addr, y.cap, rfl, y.le, y.most, (y.rd.only ho (fun k hk _ e => hfe k hk (by rw [e]))).mono (fun k hk _ => .inl hk)⟩, fun i hi => ?_⟩
        obtain rfl : i = 0 := by have : i < 1 := hi; omega
        have h1 := (hH' j (by simpa using hj)).1
        rw [getElem!_pos d' j (by simpa using hj)] at h1
        simp only [Array.getElem_toList] at he
        rw [he] at h1
        show (sortWorld _ w b 0 n d' os).cell? ⟨b, 0 + j * 1 + 0, none⟩ = _
        simpa using h1

/-! ### sorted edges' keys -/
theorem perm_tw (p : EdgeD → Bool) (x : EdgeD) (l : List EdgeD) : (l.takeWhile p ++ [x] ++ l.dropWhile p).Perm (x :: l) := by
  rw [List.append_assoc, List.singleton_append]
  refine List.perm_middle.trans (.cons x ?_)
  rw [List.takeWhile_append_dropWhile]
theorem sortR_perm (l : List EdgeD) : (sortR l).Perm l := by
  have h : ∀ (l out : List EdgeD), (l.foldl (fun out x => insR x out) out).Perm (l ++ out) := by
    intro l
    induction l with
    | nil => intro out; exact .refl _
    | cons x l ih =>
      intro out
      rw [List.foldl_cons]
      refine (ih _).trans ?_
      exact ((perm_tw _ x out).append_left l).trans (by rw [List.cons_append]; exact List.perm_middle)
  simpa [sortR] using h l []
theorem sorted_one {l m : List (List UInt8)} (hp : l.Perm m) (hl : l.Pairwise (fun a b => ¬ b < a)) (hm : m.Pairwise (fun a b => ¬ b < a)) : l = m := by
  induction l generalizing m with
  | nil => exact (List.nil_perm.1 hp).symm
  | cons x l ih =>
    cases m with
    | nil => exact absurd hp.length_eq (by simp)
    | cons y m =>
      obtain ⟨h1, h2⟩ := List.pairwise_cons.1 hl
      obtain ⟨h3, h4⟩ := List.pairwise_cons.1 hm
      have e : x = y := by
        have hx : x ∈ y :: m := hp.mem_iff.1 (List.mem_cons_self ..)
        have hy : y ∈ x :: l := hp.mem_iff.2 (List.mem_cons_self ..)
        rcases List.mem_cons.1 hx with rfl | hx
        · rfl
        · rcases List.mem_cons.1 hy with rfl | hy
          · rfl
          · exact bytes_anti (h3 x hx) (h1 y hy)
      subst e
      rw [ih (List.Perm.cons_inv hp) h2 h4]
theorem keysM_sorted {s : List EdgeD} (hs : sortedE s) (hok : ∀ x ∈ s, okE x) : (keysM s).Pairwise (fun a b => ¬ b < a) := by
  unfold keysM
  rw [List.pairwise_map]
  refine List.Pairwise.imp_of_mem (fun {x y} hx hy h hlt => ?_) hs
  have := (belowE_key y x (hok y hy) (hok x hx)).2 hlt
  rw [h] at this; cases this
theorem keys_sortR {l : List EdgeD} (hok : ∀ x ∈ l, okE x) {M : List (List UInt8)} (hp : M.Perm (keysM l)) (hM : M.Pairwise (fun a b => ¬ b < a)) : M = keysM (sortR l) :=
  sorted_one (hp.trans ((sortR_perm l).map _).symm) hM (keysM_sorted (sortR_all l).1 (fun x hx => hok x ((sortR_all l).2.1 x |>.1 hx)))
end Go.Proofs.Ytlgnpogmgpgdaaa
