/- slices.Clone and slices.SortFunc of visits; Top.Len, Top.Rows, New. -/
import Derived.Handy
import Derived.Lib.LazyBuf
import Derived.BigFrame
import Derived.Test.YtggcmnjllkncaaaBestPut
import Derived.Test.YtggcmnjllkncaaaSortVLay
import Derived.Test.YtggcmnjllkncaaaSrcAll
import Derived.Test.YtggcmnjllkncaaaSort5
namespace Go.Proofs.Ytggcmnjllkncaaa
set_option linter.unusedSimpArgs false
set_option linter.unusedVariables false
set_option maxRecDepth 100000
open Go.RowKit

theorem oneVis : OneC visRep := OneC.prod (OneC.nat _ _) (OneC.prod (OneC.nat _ _) (OneC.nat _ _))
theorem visElemS : Elem Try.prog 22 31 3 16 (.agg #[.int .u32 0, .int .u32 0, .int .u64 0]) := Elem.mk' Try.underlying22 (by kernel_rfl) rfl (by decide)
theorem vis_ok {w : World} {fp : Nat → Prop} {x : VisD} {cs : List Value} (h : visRep.ok w fp x cs) : cs = visCs x ∧ okV x := by
  obtain ⟨c, d, rfl, ⟨rfl, h1⟩, c2, d2, rfl, ⟨rfl, h2⟩, ⟨rfl, h3⟩⟩ := h
  exact ⟨rfl, h1, h2, h3⟩
theorem vis_css {w : World} {fp : Nat → Prop} : ∀ {l : List VisD} {css : List (List Value)}, All2 (fun x cs => visRep.ok w fp x cs) l css → css = l.map visCs ∧ ∀ x ∈ l, okV x
  | _, _, .nil => ⟨rfl, fun x h => by cases h⟩
  | _, _, .cons h1 h2 => by
    obtain ⟨h3, h4⟩ := vis_css h2
    obtain ⟨h5, h6⟩ := vis_ok h1
    refine ⟨by rw [List.map_cons, h3, h5], fun x hx => ?_⟩
    rcases List.mem_cons.1 hx with rfl | hx
    · exact h6
    · exact h4 x hx
/-- a row of visits of a block of its own -/
def OwnVis (l : List VisD) (w : World) (e : Ending) (w' : World) : Prop :=
  ∃ a c g, e = .returned (.slice a l.length c) ∧ OwnS visRep (fun _ => False) w' a c g 31 l ∧ (∀ k, g = some k → w.heap.size ≤ k) ∧ Below w.heap.size w w'
theorem vis_nofp {w : World} {fp : Nat → Prop} {l : List VisD} {css : List (List Value)} (h : All2 (fun x cs => visRep.ok w fp x cs) l css) (w' : World) : All2 (fun x cs => visRep.ok w' (fun _ => False) x cs) l css :=
  forall2_imp (fun x cs h => by obtain ⟨rfl, h2⟩ := vis_ok h; exact visRep_ok h2) h
set_option maxHeartbeats 1600000 in
theorem visclone_any (l : List VisD) (ao : Option Addr) (cap : Nat) (fp : Nat → Prop) (w : World) (hl : l.length ≤ 1000000) (hrd : RdS visRep fp w ao l) :
    Calls Try.prog 22 #[.slice ao l.length cap] w (OwnVis l w) := by
  have hE := visElemS
  obtain ⟨css, hall, hsrc⟩ := RdS.srcAll oneVis (tx := 22) Try.underlying22 hrd
  have Hsrc := Lib.hid (hsrc _ (ext_alloc w (.cells #[] 31)) cap)
  have Hall := Lib.hid hall
  clear hsrc hall
  cases ao with
  | none =>
    have hl0 : l = [] := by rcases hrd with h | ⟨b, off, h, _⟩; exact h; cases h
    subst hl0
    have hnil : (binOp .eql 22 (.slice none 0 cap) (.slice none 0 0)).run Try.prog w = .ok (.bool true) w := Go.run_eql_slice_nil w _ _ _ _ _ Try.underlying22
    clear hrd
    go_enter Try.func22, Try.ntmps22
    go_wp2
    go_ret
    exact ⟨none, 0, none, rfl, OwnS.nil _ _ _ _, (fun k h => by cases h), Below.refl _ _⟩
  | some a =>
    have hnil : (binOp .eql 22 (.slice (some a) l.length cap) (.slice none 0 0)).run Try.prog w = .ok (.bool false) w := Go.run_eql_slice_nil w _ _ _ _ _ Try.underlying22
    clear hrd
    go_enter Try.func22, Try.ntmps22
    go_wp2_with (at_builtin; refine wpList_app rfl (.tmp 5) (.tmp 6) 22 22 rfl hE (Own.emptyAt w 31 3 w.heap.size rfl) rfl rfl Hsrc.out (by simp [maxLen]; omega) (by omega) ?_; intro ao4 cap4 g4 W4 ho4 hg4 hon4; obtain ⟨hG, hBB⟩ := app_blocksM (w := w) (W := w.alloc (.cells #[] 31)) (fun k h => by cases h; exact Nat.le_refl _) (ext_alloc w _) hg4 hon4; have Ho4 := Lib.hid ho4; clear ho4 hg4 hon4)
    go_ret
    exact ⟨ao4, cap4, g4, by simp, ⟨css, (by simpa using Ho4.out : Own W4 ao4 cap4 g4 31 3 l.length css.flatten), vis_nofp Hall.out _⟩, hG, hBB⟩

/-! ### slices.SortFunc -/
theorem swoVis : Sort.SWO (ltOf ordV) where
  irrefl x := decide_eq_false (fun h => by have := (ordV_lt x x).1 h; rw [betV_irr] at this; cases this)
  trans x y z h1 h2 := decide_eq_true ((ordV_lt _ _).2 (betV_trans ((ordV_lt _ _).1 (of_decide_eq_true h1)) ((ordV_lt _ _).1 (of_decide_eq_true h2))))
  ntrans x y z h1 h2 := decide_eq_false (fun h => by
    have e1 : betV x y = false := by rw [← Bool.not_eq_true]; exact fun k => of_decide_eq_false h1 ((ordV_lt _ _).2 k)
    have e2 : betV y z = false := by rw [← Bool.not_eq_true]; exact fun k => of_decide_eq_false h2 ((ordV_lt _ _).2 k)
    have := (ordV_lt _ _).1 h
    rw [betV_ntrans e1 e2] at this; cases this)
theorem vis_lays (blk off n : Nat) (w : World) : CmpLays Try.prog 19 #[] visCs 3 ordV blk off n w := fun m os dk _ x y => by
  simpa [GrowS] using order_lay x y (sortWorldK visCs 3 w blk off m dk os)
theorem sortWorldK_only {α : Type} [Inhabited α] (enc : α → List Value) (k : Nat) (w : World) (blk off m : Nat) (dk : Array α) (os : Array Obj) : Only (fun b => b = blk) w (sortWorldK enc k w blk off m dk os) := by
  refine ⟨rfl, rfl, rfl, by simp [sortWorldK, Sort.ahead, Sort.putRowK], fun k hk hn => ?_⟩
  unfold sortWorldK
  rw [Sort.heap_grow_old _ _ (by simpa [Sort.ahead, Sort.putRowK] using hk)]
  unfold Sort.putRowK Sort.putRow Sort.mapBlock
  show (w.heap.modify blk _)[k]? = _
  rw [Array.getElem?_modify, if_neg (fun e => hn e.symm)]
theorem pairwise_of {α : Type} [Inhabited α] {lt : α → α → Bool} {d : Array α} (h : Sort.SortedIn lt 0 d.size d) : d.toList.Pairwise (fun a b => lt b a = false) := by
  rw [List.pairwise_iff_getElem]
  intro i j hi hj hij
  have := h i j (Nat.zero_le _) hij (by simpa using hj)
  rw [getElem!_pos d j (by simpa using hj), getElem!_pos d i (by simpa using hi)] at this
  simpa using this
set_option maxHeartbeats 1600000 in
theorem insvis_nil (ao : Option Addr) (cap : Nat) (fv : Value) (w : World) : Calls Try.prog 35 #[.slice ao 0 cap, .int .i64 0, .int .i64 0, fv] w fun e w' => e = .returned (.tuple #[]) ∧ w' = w := by
  go_enter Try.func35, Try.ntmps35
  go_wp2_with fail
  refine wp_loop_rounds 1 ?_
  rw [rounds_succ]
  go_wp2_with fail
  (try simp only [Exit.inBlock, Exit.then])
  go_end0
  exact ⟨rfl, rfl⟩
set_option maxHeartbeats 1600000 in
theorem pdqvis_nil (ao : Option Addr) (cap : Nat) (l : Nat) (fv : Value) (w : World) : Calls Try.prog 30 #[.slice ao 0 cap, .int .i64 0, .int .i64 0, .int .i64 l, fv] w fun e w' => e = .returned (.tuple #[]) ∧ w' = w := by
  go_enter Try.func30, Try.ntmps30
  go_wp2_with fail
  refine wp_loop_rounds 1 ?_
  rw [rounds_succ]
  go_wp2_with (go_at_call 35; refine (insvis_nil _ _ _ _).mono ?_; rintro e w' ⟨rfl, rfl⟩)
  (try simp only [Exit.inBlock, Exit.then])
  refine bodyPost_ret (results_none rfl _ _ _) rfl ?_
  exact ⟨rfl, rfl⟩
set_option maxHeartbeats 1600000 in
theorem sortvis_nil (ao : Option Addr) (cap : Nat) (fv : Value) (w : World) : Calls Try.prog 23 #[.slice ao 0 cap, fv] w fun e w' => e = .returned (.tuple #[]) ∧ w' = w := by
  have HL := Lib.hid (fun W => len_any 0 (by omega) W)
  go_enter Try.func23, Try.ntmps23
  go_wp2_with (first
    | (go_at_call 31; refine (HL.out _).mono ?_; rintro e w' ⟨rfl, rfl⟩)
    | (go_at_call 30; refine (pdqvis_nil _ _ _ _ _).mono ?_; rintro e w' ⟨rfl, rfl⟩))
  go_end0
  exact ⟨rfl, rfl⟩
def SortedVis (L : List VisD) (ao : Option Addr) (g : Option Nat) (w : World) (e : Ending) (w' : World) : Prop :=
  e = .returned (.tuple #[]) ∧ RdS visRep (fun b => g = some b) w' ao (sortV L) ∧ Only (fun k => g = some k) w w'
theorem vissort_any (L : List VisD) (ao : Option Addr) (cap : Nat) (g : Option Nat) (w : World) (hl : L.length ≤ 1000000) (hO : OwnS visRep (fun _ => False) w ao cap g 31 L) :
    Calls Try.prog 23 #[.slice ao L.length cap, .func (.func 19) #[] #[]] w (SortedVis L ao g w) := by
  obtain ⟨css, hown0, hall⟩ := hO
  obtain ⟨hcs, hok⟩ := vis_css hall
  have hch := flatten_chunk visRep (fun _ => False) w hall
  rcases hown0.2 with ⟨rfl, rfl, hn, rfl⟩ | ⟨b, cur, rfl, rfl, hh, hn, hc, hsz, ht⟩
  · obtain rfl := List.eq_nil_of_length_eq_zero hn
    exact (sortvis_nil none 0 _ w).mono fun e w' ⟨h1, h2⟩ => ⟨h1, .inl rfl, by rw [h2]; exact Only.refl _ _⟩
  · have hbl := (Array.getElem?_eq_some_iff.1 hh).1
    have hH : Sort.HoldsK visCs 3 w b 0 L.toArray := fun t ht' => by
      have ht2 : t < L.toArray.size * 3 := by simpa using ht'
      have ht3 : t < L.length * 3 := by simpa using ht2
      refine ⟨?_, by simp [World.frozen?, hh]⟩
      have hj : t / 3 < L.length := by omega
      obtain ⟨cs, hx, hi⟩ := hch (t / 3) L[t / 3] (List.getElem?_eq_getElem hj)
      obtain ⟨rfl, _⟩ := vis_ok hx
      rw [Nat.zero_add, Sort.get_flatK visCs 3 L.toArray t ht2, hown0.cell t ht3, show t = t / 3 * visRep.size + t % 3 from by show t = t / 3 * 3 + t % 3; omega, hi (t % 3) (by show t % 3 < 3; omega)]
      have e3 : t / 3 * visRep.size + t % 3 = t := by show t / 3 * 3 + t % 3 = t; omega
      rw [e3, getElem!_pos L.toArray (t / 3) (by simpa using hj), List.getElem_toArray]
      have hm : t % 3 < (visCs L[t / 3]).length := by show t % 3 < 3; omega
      rw [List.getElem?_eq_getElem hm, getElem!_pos (visCs L[t / 3]) (t % 3) hm]
      rfl
    have eg : ∀ args w, (callFunc 19 args).run Try.prog w = .ok (.enter 19 args) w := enters_of Try.func19 (by kernel_rfl) rfl
    have h := AnyQ.slices_SortFunc sortVis 3 Try.isAgg31 Try.sizeOf31 visCs (fun x => rfl) (fun x v hv => by simp [visCs] at hv; rcases hv with rfl | rfl | rfl <;> rfl) ordV swoVis 19 #[] b 0 cap L.toArray w eg (vis_lays _ _ _ _) hH hbl (by simp; omega)
    rw [List.size_toArray] at h
    refine Calls.mono h ?_
    rintro e w' ⟨rfl, d', n, os, hp, hs, rfl⟩
    have hdz : d'.size = L.length := by rw [hp.1]; simp
    have hperm : d'.toList.Perm L := by
      have h1 := hp.2.2
      have e1 : (d'.extract 0 L.length).toList = d'.toList := by rw [Array.toList_extract]; simp [List.extract, ← hdz]; exact List.take_of_length_le (by simp)
      have e2 : (L.toArray.extract 0 L.length).toList = L := by rw [Array.toList_extract]; simp [List.extract]
      rw [e1, e2] at h1
      exact h1
    have hsrt : d'.toList = sortV L := by
      refine srt_one (hperm.trans (sortV_all L).2.symm) ?_ (sortV_all L).1
      rw [← hdz] at hs
      refine (pairwise_of hs).imp fun {x y} hxy => ?_
      rw [← Bool.not_eq_true]
      exact fun k => of_decide_eq_false hxy ((ordV_lt _ _).2 k)
    refine ⟨rfl, ?_, (sortWorldK_only _ _ _ _ _ _ _ _).mono (fun k _ e => by rw [e])⟩
    have hH' := (SWK.holds (⟨n, os, rfl⟩ : SWK visCs 3 w b 0 d' (sortWorldK visCs 3 w b 0 n d' os)) hbl hH (by rw [hdz]; simp))
    have ho := sortWorldK_only visCs 3 w b 0 n d' os
    refine .inr ⟨b, 0, rfl, rfl, Nat.lt_of_lt_of_le hbl ho.size, fun j x hx => ?_⟩
    rw [← hsrt] at hx
    obtain ⟨hj, rfl⟩ := List.getElem?_eq_some_iff.1 hx
    have hj' : j < d'.size := by simpa using hj
    refine ⟨visCs d'.toList[j], visRep_ok (hok _ (hperm.mem_iff.1 (List.getElem_mem hj))), fun i hi => ?_⟩
    have hi3 : i < 3 := hi
    have h1 := hH'.cell (i := j) (c := i) hj' hi3
    rw [getElem!_pos d' j hj'] at h1
    have hm : i < (visCs d'[j]).length := hi3
    rw [getElem!_pos (visCs d'[j]) i hm] at h1
    simp only [Array.getElem_toList]
    rw [List.getElem?_eq_getElem hm]
    exact h1.1

/-! ### Top.Len, Top.Rows, New -/
set_option maxHeartbeats 1600000 in
theorem tlen_nil (w : World) : Calls Try.prog 12 #[.pointer none] w fun e w' => e = .returned (.int .i64 0) ∧ w' = w := by
  go_enter Try.func12, Try.ntmps12
  go_wp2_with fail
  go_ret
  exact ⟨rfl, rfl⟩
set_option maxHeartbeats 1600000 in
theorem trows_nil (w : World) : Calls Try.prog 14 #[.pointer none] w fun e w' => e = .returned (.slice none 0 0) ∧ w' = w := by
  go_enter Try.func14, Try.ntmps14
  go_wp2_with fail
  go_ret
  exact ⟨rfl, rfl⟩
set_option maxHeartbeats 1600000 in
theorem tlen_any (l : List VisD) (t m : Nat) (g : Option Nat) (w : World) (hT : TopS w t m g l) : Calls Try.prog 12 #[.pointer (some ⟨t, 0, none⟩)] w fun e w' => e = .returned (.int .i64 ((bestL l m).length : Nat)) ∧ w' = w := by
  obtain ⟨A, hp, hh, ao, cap, hTA, hO, hgt⟩ := hT
  rw [← hp.length_eq]
  have c1 := cell_of_row w t 1 _ _ (0, 0) hTA
  have hl := klen_any ao A.length cap w
  clear hTA hO hp hh
  go_enter Try.func12, Try.ntmps12
  go_wp2_with (first
    | (go_at_call 21; refine hl.mono ?_; rintro e w2 ⟨rfl, rfl⟩))
  go_ret
  exact ⟨rfl, rfl⟩
/-- visits that read as l, in memory that is new -/
def RowsVis (l : List VisD) (w : World) (e : Ending) (w' : World) : Prop :=
  ∃ a c, e = .returned (.slice a l.length c) ∧ l.length ≤ c ∧ c ≤ maxLen ∧ RdS visRep (fun k => w.heap.size ≤ k) w' a l ∧ Below w.heap.size w w'
set_option maxHeartbeats 1600000 in
theorem trows_any (l : List VisD) (t m : Nat) (g : Option Nat) (w : World) (hl : l.length ≤ 1000000) (hT : TopS w t m g l) : Calls Try.prog 14 #[.pointer (some ⟨t, 0, none⟩)] w (RowsVis (bestL l m) w) := by
  obtain ⟨A, hp, hh, ao, cap, hTA, hO, hgt⟩ := hT
  have hlen : A.length = min m l.length := by rw [hp.length_eq, bestL_len]
  have hs : bestL l m = sortV A := srt_one (hp.symm.trans (sortV_all A).2.symm) (bestL_srt _ _) (sortV_all A).1
  rw [hs]
  have c1 := cell_of_row w t 1 _ _ (0, 0) hTA
  have hcl := visclone_any A ao cap _ w (by omega) hO.rd
  have HL := Lib.hid (show A.length ≤ 1000000 by omega)
  clear hTA hO hp hh hlen hs hl
  go_enter Try.func14, Try.ntmps14
  go_wp2_with (first
    | (go_at_call 22; refine hcl.mono ?_; rintro e w2 ⟨a2, c2, g2, rfl, hO2, hg2, hB2⟩; clear hcl; have hso := vissort_any A a2 c2 g2 w2 HL.out hO2; have HO2 := Lib.hid hO2; have Hg2 := Lib.hid hg2; have HB2 := Lib.hid hB2; clear hO2 hg2 hB2)
    | (go_at_call 23; refine hso.mono ?_; rintro e w3 ⟨rfl, hR, hon⟩; clear hso; have HR := Lib.hid hR; have Hon := Lib.hid hon; clear hR hon))
  go_ret
  have hle := (sortV_all A).2.length_eq
  refine ⟨a2, c2, by rw [hle]; rfl, by rw [hle]; exact HO2.out.capLe.1, HO2.out.capLe.2, HR.out.mono (fun b hb _ => Hg2.out b hb), ?_⟩
  exact HB2.out.trans (Hon.out.below HB2.out.size (fun k hk e => by have := Hg2.out k e; omega))
set_option maxHeartbeats 1600000 in
theorem tnew_any (most : Int) (w : World) (h0 : -9223372036854775808 ≤ most) (h1 : most ≤ 9223372036854775807) : Calls Try.prog 9 #[.int .i64 most] w fun e w' => e = .returned (.pointer (some ⟨w.heap.size, 0, none⟩)) ∧ TopS w' w.heap.size most.toNat none [] ∧ Below w.heap.size w w' := by
  have hmx : ∀ (w : World) (ts : Array TypeId) (t : TypeId), (Builtin.max_ ts t #[.int .i64 most, .int .i64 0]).run Try.prog w = .ok (.int .i64 (most.toNat : Nat)) w := fun w ts t => by
    rw [← (show (if (0 : Int) > most then (0 : Int) else most) = (most.toNat : Nat) by split <;> omega)]; simp [Builtin.max_, Builtin.max2]
  go_enter Try.func9, Try.ntmps9
  go_wp2_with fail
  go_ret
  refine ⟨rfl, TopS.new ?_, ext_alloc _ _⟩
  unfold TopAt
  rw [heap_alloc_new, show max most 0 = (most.toNat : Nat) by omega]
end Go.Proofs.Ytggcmnjllkncaaa
