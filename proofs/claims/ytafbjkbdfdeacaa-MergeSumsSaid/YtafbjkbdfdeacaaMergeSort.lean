/- The reference's Keys, Sorted. -/
import Derived.Test.YtafbjkbdfdeacaaMergeLaw1
namespace Go.Proofs.Ytafbjkbdfdeacaa
set_option linter.unusedSimpArgs false
set_option linter.unusedVariables false
open Go.RowKit

theorem RdS.edgeM {fp : Nat → Prop} {w : World} {ao : Option Addr} {l : List EdgeD} (h : RdS edgeRep fp w ao l) (k : Nat) (hk : k < l.length) :
    ∃ b off, ao = some ⟨b, off, none⟩ ∧ b < w.heap.size ∧ w.cell? ⟨b, off + k * 3, none⟩ = some (.int .u32 (l[k].1 : Nat)) ∧ w.cell? ⟨b, off + k * 3 + 1, none⟩ = some (.int .u32 (l[k].2.1 : Nat)) ∧ w.cell? ⟨b, off + k * 3 + 2, none⟩ = some (.int .u32 (l[k].2.2 : Nat)) ∧ okE l[k] := by
  obtain ⟨b, off, cs, rfl, _, hb, ⟨c, d, rfl, ⟨rfl, h1⟩, c2, d2, rfl, ⟨rfl, h2⟩, ⟨rfl, h3⟩⟩, hc⟩ := h.at k hk
  exact ⟨b, off, rfl, hb, hc 0 (by decide), hc 1 (by decide), hc 2 (by decide), h1, h2, h3⟩
def keysM (l : List EdgeD) : List (List UInt8) := l.map (fun x => key3 x.1 x.2.1 x.2.2)
theorem keysM_take (l : List EdgeD) (k : Nat) (h : k < l.length) : (keysM l).take (k + 1) = (keysM l).take k ++ [key3 l[k].1 l[k].2.1 l[k].2.2] := by
  unfold keysM
  rw [List.take_succ_eq_append_getElem (by simpa using h), List.getElem_map]
def KeysRet (L : List (List UInt8)) (w : World) (e : Ending) (w' : World) : Prop :=
  ∃ ao cap, e = .returned (.slice ao L.length cap) ∧ L.length ≤ cap ∧ cap ≤ maxLen ∧ RdS (Rep.slice Rep.u8) (fun k => w.heap.size ≤ k) w' ao L ∧ Below w.heap.size w w'
def ksI (l : List EdgeD) (w : World) (o i : Value) (wr : World) : Prop :=
  ∃ (k : Nat) (ao : Option Addr) (cap : Nat) (g : Option Nat) (fe : Nat → Prop), k ≤ l.length ∧ i = .int .i64 (k : Nat) ∧ o = .slice ao k cap ∧ OwnS (Rep.slice Rep.u8) fe wr ao cap g 25 ((keysM l).take k) ∧
    (∀ b, fe b → w.heap.size ≤ b ∧ b < wr.heap.size ∧ g ≠ some b) ∧ (∀ b, g = some b → w.heap.size ≤ b) ∧ Below w.heap.size w wr
theorem rowsElem : Elem Try.prog 35 25 1 24 (.slice none 0 0) := Elem.mk' Try.underlying35 (by kernel_rfl) rfl (by decide)

set_option maxRecDepth 100000 in
set_option maxHeartbeats 1600000 in
theorem rkeys_any (l : List EdgeD) (ao : Option Addr) (cap : Nat) (fp : Nat → Prop) (w : World) (hl : l.length ≤ 100000) (hrd : RdS edgeRep fp w ao l) :
    Calls Try.prog 26 #[.slice ao l.length cap] w (KeysRet (keysM l) w) := by
  have hE := rowsElem
  have Hrd := Lib.hid hrd
  clear hrd
  go_enter Try.func26, Try.ntmps26
  go_wp2_with fail
  go_loopw [3, 8] (fun o i wr => ksI l w o i wr) (fun _ i _ => l.length - (intOf i).toNat)
  case atStart =>
    exact ⟨0, some ⟨w.heap.size, 0, none⟩, 0, some w.heap.size, fun _ => False, by omega, rfl, rfl, ⟨[], Own.emptyAt w _ _ _ rfl, .nil⟩, fun b h => h.elim, (fun b h => by cases h; omega), ext_alloc w _⟩
  case round =>
    obtain ⟨k, ao', cap', g, fe, hk, rfl, rfl, hO, hfe, hg, hB⟩ := hrel
    by_cases hlt : k < l.length
    · obtain ⟨bb, off, rfl, hbb, hc0, hc1, hc2, hok⟩ := (Hrd.out.ext hB).edgeM k hlt
      have hir : (k : Int) < (l.length : Int) := by omega
      have hst := keysM_take l k hlt
      have hkl : ((keysM l).take k).length = k := by simp [keysM]; omega
      generalize l[k] = x at hc0 hc1 hc2 hok hst
      obtain ⟨x0, x1, x2⟩ := x
      simp only at hc0 hc1 hc2 hst
      have HKy := Lib.hid (rkey_any x0 x1 x2 hok.1 hok.2.1 hok.2.2)
      obtain ⟨css, hown0, hall⟩ := hO
      rw [hkl] at hown0
      have hown : Own wr ao' cap' g 25 1 k css.flatten := hown0
      have Hown := Lib.hid hown
      have Hall := Lib.hid hall
      have Hst := Lib.hid hst
      have Hkl := Lib.hid hkl
      have Hfe := Lib.hid hfe
      have Hg := Lib.hid hg
      have HB := Lib.hid hB
      have hsB := hB.size
      have hglt := hown.lt
      have Hglt := Lib.hid hglt
      clear hown0 hown hall hst hkl hfe hg hB hok hglt
      go_wp2_with (first
        | (go_at_call 18; (with_reducible refine (HKy.out _).mono ?_); rintro e w2 ⟨a2, c2, g2, rfl, ho2, hg2, hB2⟩; have hs2 := hB2.size; have Ho2 := Lib.hid ho2; have Hg2 := Lib.hid hg2; have HB2 := Lib.hid hB2; clear ho2 hg2 hB2)
        | (at_builtin; refine wpList_app rfl (.tmp 11) (.tmp 17) 35 35 rfl hE ((Hown.out.ext HB2.out).alloc _) rfl rfl (srcOne Try.underlying35 _ _ _ _ rfl) (by simp [maxLen]; omega) (by omega) ?_; intro ao3 cap3 g3 W3 ho3 hg3 hon3; have Ho3 := Lib.hid ho3; have Hg3 := Lib.hid hg3; have Hon3 := Lib.hid hon3; clear ho3 hg3 hon3))
      have hon : Only (fun j => g = some j) w2 W3 := ((Only.refl (fun j => g = some j) w2).alloc _).trans Hon3.out (fun _ _ h => h)
      have hs3 := hon.size
      have hg3' : ∀ b, g3 = some b → g = some b ∨ w2.heap.size ≤ b := fun b h => by
        rcases Hg3.out with e | e <;> rw [e] at h
        · exact .inl h
        · have h := Option.some.inj h; right; simp at h; omega
      have hg2l := Ho2.out.lt
      go_roundw
      case rel =>
        refine ⟨k + 1, ao3, cap3, g3, fun b => fe b ∨ g2 = some b, by omega, by go_num, rfl, ?_, fun b hb => ?_, fun b hb => ?_, ?_⟩
        · rw [Hst.out]
          refine OwnS.snoc (w := wr) (forall2_imp (fun x cs h => (Rep.slice Rep.u8).mono h (fun b hb _ => .inl hb)) Hall.out) (cs := [.slice a2 12 c2]) ⟨a2, c2, rfl, Ho2.out.capLe.1, Ho2.out.capLe.2, ?_⟩ (by rw [Hkl.out]; exact Ho3.out) (fun b hb hl => ?_) (by omega)
          · refine ((rdS_u8 (l := key3 x0 x1 x2) Ho2.out).only hon (fun b hb _ e => ?_)).mono (fun b hb _ => .inr hb)
            have := Hg2.out b hb; have := Hglt.out b e; omega
          · rcases hb with hb | hb
            · exact (hon.same b (by omega) (Hfe.out b hb).2.2).trans (HB2.out.block b hl)
            · have := Hg2.out b hb; omega
        · rcases hb with hb | hb
          · refine ⟨(Hfe.out b hb).1, by have := (Hfe.out b hb).2.1; omega, fun e => ?_⟩
            rcases hg3' b e with h | h
            · exact (Hfe.out b hb).2.2 h
            · have := (Hfe.out b hb).2.1; omega
          · have h1 := Hg2.out b hb
            have h2 := hg2l b hb
            refine ⟨by omega, by omega, fun e => ?_⟩
            rcases hg3' b e with h | h
            · have := Hglt.out b h; omega
            · omega
        · rcases hg3' b hb with h | h
          · exact Hg.out b h
          · omega
        · exact (HB.out.trans (HB2.out.mono hsB)).trans (hon.below (by omega) (fun j hj e => by have := Hg.out j e; omega))
      case measure => simp [intOf]; omega
    · obtain rfl : k = l.length := by omega
      have hlen : (keysM l).length = l.length := by simp [keysM]
      have e : (keysM l).take l.length = keysM l := by rw [← hlen, List.take_length]
      rw [e] at hO
      have HO := Lib.hid hO
      have HB := Lib.hid hB
      have Hl := Lib.hid hlen
      clear hO hB hlen e
      go_wp2_with fail
      go_ret
      exact ⟨ao', cap', by simp [Hl.out], HO.out.capLe.1, HO.out.capLe.2, HO.out.rd.mono (fun b hb _ => hb.elim (fun h => (hfe b h).1) (hg b)), HB.out⟩

def insR (x : EdgeD) (out : List EdgeD) : List EdgeD := out.takeWhile (fun e => !belowE x e) ++ [x] ++ out.dropWhile (fun e => !belowE x e)
def sortR (l : List EdgeD) : List EdgeD := l.foldl (fun out x => insR x out) []
theorem insR_len (x : EdgeD) (out : List EdgeD) : (insR x out).length = out.length + 1 := by
  unfold insR
  have := congrArg List.length (List.takeWhile_append_dropWhile (p := fun e => !belowE x e) (l := out))
  simp only [List.length_append, List.length_singleton] at this ⊢
  omega
theorem sortR_take (l : List EdgeD) (k : Nat) (h : k < l.length) : sortR (l.take (k + 1)) = insR l[k] (sortR (l.take k)) := by
  unfold sortR
  rw [List.take_succ_eq_append_getElem h, List.foldl_append]
  rfl
theorem sortR_len : ∀ (l : List EdgeD), (sortR l).length = l.length := by
  intro l
  have h : ∀ (l : List EdgeD) (out : List EdgeD), (l.foldl (fun out x => insR x out) out).length = out.length + l.length := by
    intro l
    induction l with
    | nil => intro out; rfl
    | cons x l ih => intro out; rw [List.foldl_cons, ih, insR_len, List.length_cons]; omega
  have := h l []
  simpa [sortR] using this
theorem take_while_take {α : Type} (p : α → Bool) (l : List α) : l.takeWhile p = l.take (l.takeWhile p).length ∧ l.dropWhile p = l.drop (l.takeWhile p).length := by
  induction l with
  | nil => exact ⟨rfl, rfl⟩
  | cons x l ih =>
    by_cases h : p x = true
    · rw [List.takeWhile_cons_of_pos h, List.dropWhile_cons_of_pos h]
      exact ⟨by rw [List.length_cons, List.take_succ_cons, ← ih.1], by rw [List.length_cons, List.drop_succ_cons]; exact ih.2⟩
    · rw [List.takeWhile_cons_of_neg h, List.dropWhile_cons_of_neg h]
      exact ⟨rfl, rfl⟩
theorem insR_eq (x : EdgeD) (out : List EdgeD) : insR x out = out.take (out.takeWhile (fun e => !belowE x e)).length ++ [x] ++ out.drop (out.takeWhile (fun e => !belowE x e)).length := by
  obtain ⟨t1, t2⟩ := take_while_take (fun e => !belowE x e) out
  unfold insR
  rw [t2, ← t1]
theorem take_while_at {α : Type} (p : α → Bool) (l : List α) : (∀ j (h : j < l.length), j < (l.takeWhile p).length → p l[j] = true) ∧ (∀ (h : (l.takeWhile p).length < l.length), p (l[(l.takeWhile p).length]) = false) ∧ (l.takeWhile p).length ≤ l.length := by
  induction l with
  | nil => exact ⟨fun j h => by simp at h, fun h => by simp at h, by simp⟩
  | cons x l ih =>
    by_cases h : p x = true
    · rw [List.takeWhile_cons_of_pos h]
      refine ⟨fun j hj hl => ?_, fun hl => ?_, by have := ih.2.2; simp; omega⟩
      · cases j with
        | zero => exact h
        | succ j => simp at hj hl ⊢; exact ih.1 j hj hl
      · simp at hl ⊢; exact ih.2.1 hl
    · rw [List.takeWhile_cons_of_neg h]
      exact ⟨fun j hj hl => by simp at hl, fun hl => by simpa using h, by simp⟩
def EdgesRet (L : List EdgeD) (w : World) (e : Ending) (w' : World) : Prop :=
  ∃ ao cap, e = .returned (.slice ao L.length cap) ∧ L.length ≤ cap ∧ cap ≤ maxLen ∧ RdS edgeRep (fun k => w.heap.size ≤ k) w' ao L ∧ Below w.heap.size w w'
theorem oneEdge : OneC edgeRep := OneC.prod (OneC.nat _ _) (OneC.prod (OneC.nat _ _) (OneC.nat _ _))
def stI (l : List EdgeD) (w : World) (o i : Value) (wr : World) : Prop :=
  ∃ (k b cap : Nat), k ≤ l.length ∧ i = .int .i64 (k : Nat) ∧ o = .slice (some ⟨b, 0, none⟩) k cap ∧ k ≤ cap ∧ cap ≤ maxLen ∧ RdS edgeRep (fun k => w.heap.size ≤ k) wr (some ⟨b, 0, none⟩) (sortR (l.take k)) ∧ Below w.heap.size w wr
def atI (n : Nat) (w : World) (i : Value) (wr : World) : Prop := ∃ j : Nat, j ≤ n ∧ i = .int .i64 (j : Nat) ∧ Below w.heap.size w wr

set_option maxRecDepth 100000 in
set_option maxHeartbeats 3200000 in
theorem rsorted_any (l : List EdgeD) (ao : Option Addr) (cap : Nat) (fp : Nat → Prop) (w : World) (hl : l.length ≤ 100000) (hrd : RdS edgeRep fp w ao l) :
    Calls Try.prog 27 #[.slice ao l.length cap] w (EdgesRet (sortR l) w) := by
  have hE := edgeElem
  have Hrd := Lib.hid hrd
  clear hrd
  go_enter Try.func27, Try.ntmps27
  go_wp2_with fail
  go_loopw [3, 10] (fun o i wr => stI l w o i wr) (fun _ i _ => l.length - (intOf i).toNat)
  case atStart => exact ⟨0, w.heap.size, 0, by omega, rfl, rfl, by omega, by simp [maxLen], .inl rfl, ext_alloc w _⟩
  case round =>
    obtain ⟨k, b, cap', hk, rfl, rfl, hc1, hc2, hO, hB⟩ := hrel
    by_cases hlt : k < l.length
    · obtain ⟨bb, off, rfl, hbb, lc0, lc1, lc2, hok⟩ := (Hrd.out.ext hB).edgeM k hlt
      have hir : (k : Int) < (l.length : Int) := by omega
      have hst := sortR_take l k hlt
      have hkl : (sortR (l.take k)).length = k := by rw [sortR_len]; simp; omega
      generalize l[k] = x at lc0 lc1 lc2 hok hst
      generalize hout : sortR (l.take k) = out at hO hst hkl
      obtain ⟨t3, t4, t5⟩ := take_while_at (fun e => !belowE x e) out
      rw [insR_eq] at hst
      generalize (out.takeWhile (fun e => !belowE x e)).length = n at hst t3 t4 t5
      obtain ⟨x0, x1, x2⟩ := x
      simp only at lc0 lc1 lc2
      have hkn : n ≤ k := by omega
      have Hst := Lib.hid hst
      have Hkl := Lib.hid hkl
      have HO := Lib.hid hO
      have HB := Lib.hid hB
      have T3 := Lib.hid t3
      have T4 := Lib.hid t4
      have Hok := Lib.hid hok
      clear hst hkl hO hB t3 t4 t5 hout hok
      go_wp2_with fail
      rename World => wo
      go_loopw [5] (fun i wi => atI n wo i wi) (fun i _ => n - (intOf i).toNat)
      case atStart => exact ⟨0, by omega, rfl, Below.refl _ _⟩
      case round =>
        obtain ⟨q, hj, rfl, hBi⟩ := hrel
        by_cases hqn : q < n
        · have hbel : belowE (x0, x1, x2) (out[q]'(by have := Hkl.out; omega)) = false := by simpa using T3.out q (by have := Hkl.out; omega) hqn
          obtain ⟨b', off', hab, hbo, n0, n1, n2, hoke⟩ := (HO.out.ext hBi).edgeM q (by have := Hkl.out; omega)
          cases hab
          obtain ⟨⟨e0, e1, e2⟩, he⟩ : ∃ e, out[q]'(by have := Hkl.out; omega) = e := ⟨_, rfl⟩
          rw [he] at n0 n1 n2 hbel
          simp only [Nat.zero_add] at n0 n1 n2
          have hBl := rbelow_any (x0, x1, x2) (e0, e1, e2)
          simp only [edgeV] at hBl
          rw [hbel] at hBl
          have HBl := Lib.hid hBl
          have m0 := ((bcell hBi).1 bb _ hbb).trans lc0
          have m1 := ((bcell hBi).1 bb _ hbb).trans lc1
          have m2 := ((bcell hBi).1 bb _ hbb).trans lc2
          have hbi : bb < wr.heap.size := Nat.lt_of_lt_of_le hbb hBi.size
          have HBi := Lib.hid hBi
          have hqk : decide ((q : Int) < (k : Int)) = true := decide_eq_true (by omega)
          have hqk2 : (q : Int) < (k : Int) := by omega
          have hq0 : (0 : Int) ≤ (q : Int) := by omega
          have hk0 : (0 : Int) ≤ (k : Int) := by omega
          clear hbel he hBl hoke hBi
          go_wp2_with fail
          go_region_held3 (fun w' => w'.cell? ⟨bb, off + k * 3, none⟩ = some (.int .u32 (x0 : Nat)) ∧ w'.cell? ⟨bb, off + k * 3 + 1, none⟩ = some (.int .u32 (x1 : Nat)) ∧ w'.cell? ⟨bb, off + k * 3 + 2, none⟩ = some (.int .u32 (x2 : Nat)) ∧ w'.cell? ⟨b, q * 3, none⟩ = some (.int .u32 (e0 : Nat)) ∧ w'.cell? ⟨b, q * 3 + 1, none⟩ = some (.int .u32 (e1 : Nat)) ∧ w'.cell? ⟨b, q * 3 + 2, none⟩ = some (.int .u32 (e2 : Nat)))
            (first | exact ⟨m0, m1, m2, n0, n1, n2⟩ | exact HP.out)
            (first
              | (go_at_call 19; refine (HBl.out _).mono ?_; rintro e w6 ⟨rfl, hB6⟩; have hB6' : Below wr.heap.size wr w6 := (ext_drew wr).trans hB6; have HP := Lib.hid (And.intro (((bcell hB6').1 bb _ hbi).trans m0) (And.intro (((bcell hB6').1 bb _ hbi).trans m1) (And.intro (((bcell hB6').1 bb _ hbi).trans m2) (And.intro (((bcell hB6').1 b _ hbo).trans n0) (And.intro (((bcell hB6').1 b _ hbo).trans n1) (((bcell hB6').1 b _ hbo).trans n2)))))); have HB6 := Lib.hid (HBi.out.trans (hB6'.mono HBi.out.size)); clear hB6 hB6')
              | fail "no arm")
          go_wp2_with fail
          go_roundw
          case rel => exact ⟨q + 1, by omega, by go_num, HB6.out⟩
          case measure => simp [intOf]; omega
        · obtain rfl : q = n := by omega
          by_cases hqk' : q < k
          · have hbel : belowE (x0, x1, x2) (out[q]'(by have := Hkl.out; omega)) = true := by simpa using T4.out (by have := Hkl.out; omega)
            have hcq1 : (q : Int) < (cap' : Int) := by omega
            obtain ⟨b', off', hab, hbo, n0, n1, n2, hoke⟩ := (HO.out.ext hBi).edgeM q (by have := Hkl.out; omega)
            cases hab
            obtain ⟨⟨e0, e1, e2⟩, he⟩ : ∃ e, out[q]'(by have := Hkl.out; omega) = e := ⟨_, rfl⟩
            rw [he] at n0 n1 n2 hbel
            simp only [Nat.zero_add] at n0 n1 n2
            have hBl := rbelow_any (x0, x1, x2) (e0, e1, e2)
            simp only [edgeV] at hBl
            rw [hbel] at hBl
            have HBl := Lib.hid hBl
            have m0 := ((bcell hBi).1 bb _ hbb).trans lc0
            have m1 := ((bcell hBi).1 bb _ hbb).trans lc1
            have m2 := ((bcell hBi).1 bb _ hbb).trans lc2
            have hbi : bb < wr.heap.size := Nat.lt_of_lt_of_le hbb hBi.size
            have HBi := Lib.hid hBi
            have hqk : decide ((q : Int) < (k : Int)) = true := decide_eq_true (by omega)
            have hqk2 : (q : Int) < (k : Int) := by omega
            have hq0 : (0 : Int) ≤ (q : Int) := by omega
            have hk0 : (0 : Int) ≤ (k : Int) := by omega
            clear hbel he hBl hoke hBi
            go_wp2_with fail
            go_region_held3 (fun w' => w'.cell? ⟨bb, off + k * 3, none⟩ = some (.int .u32 (x0 : Nat)) ∧ w'.cell? ⟨bb, off + k * 3 + 1, none⟩ = some (.int .u32 (x1 : Nat)) ∧ w'.cell? ⟨bb, off + k * 3 + 2, none⟩ = some (.int .u32 (x2 : Nat)) ∧ w'.cell? ⟨b, q * 3, none⟩ = some (.int .u32 (e0 : Nat)) ∧ w'.cell? ⟨b, q * 3 + 1, none⟩ = some (.int .u32 (e1 : Nat)) ∧ w'.cell? ⟨b, q * 3 + 2, none⟩ = some (.int .u32 (e2 : Nat)))
              (first | exact ⟨m0, m1, m2, n0, n1, n2⟩ | exact HP.out)
              (first
                | (go_at_call 19; refine (HBl.out _).mono ?_; rintro e w6 ⟨rfl, hB6⟩; have hB6' : Below wr.heap.size wr w6 := (ext_drew wr).trans hB6; have HP := Lib.hid (And.intro (((bcell hB6').1 bb _ hbi).trans m0) (And.intro (((bcell hB6').1 bb _ hbi).trans m1) (And.intro (((bcell hB6').1 bb _ hbi).trans m2) (And.intro (((bcell hB6').1 b _ hbo).trans n0) (And.intro (((bcell hB6').1 b _ hbo).trans n1) (((bcell hB6').1 b _ hbo).trans n2)))))); have HB6 := Lib.hid (HBi.out.trans (hB6'.mono HBi.out.size)); clear hB6 hB6')
                | fail "no arm")
            have hdr := HO.out.drop q
            rw [Nat.zero_add] at hdr
            have hdr2 : RdS edgeRep _ _ (some ⟨b, q * 3, none⟩) (out.drop q) := hdr
            obtain ⟨css2, hall2, hsrc2⟩ := hdr2.srcAll oneEdge (P := Try.prog) (tx := 53) Try.underlying53
            have hl2 : (out.drop q).length = k - q := by have := Hkl.out; rw [List.length_drop]; omega
            rw [hl2] at hsrc2
            have Hsrc2 := Lib.hid hsrc2
            have Hall2 := Lib.hid hall2
            clear hall2 hsrc2 hl2 hdr hdr2
            obtain ⟨css1, hall1, hsrc1⟩ := (HO.out.take q).srcAll oneEdge (P := Try.prog) (tx := 53) Try.underlying53
            have hl1 : (out.take q).length = q := by have := Hkl.out; rw [List.length_take]; omega
            rw [hl1] at hsrc1
            have Hsrc1 := Lib.hid hsrc1
            have Hall1 := Lib.hid hall1
            have hsW := HB6.out.size
            try have hqc : (q : Int) ≤ (cap' : Int) := by omega
            have hqk3 : (q : Int) ≤ (k : Int) := by omega
            try have hkc : (k : Int) ≤ (cap' : Int) := by omega
            have hkc2 : (k : Int) ≤ (l.length : Int) := by omega
            clear hall1 hsrc1 hl1
            go_wp2_with (first
              | (at_builtin; refine wpList_app rfl (.tmp 31) (.tmp 34) 53 53 rfl hE (Own.emptyAt _ 24 3 _ (by simp)) rfl rfl (Hsrc1.out _ (HB6.out.alloc hsW _) _) (by simp [maxLen]; omega) (by omega) ?_; intro ao7 cap7 g7 w7 ho7 hg7 hon7; rw [Nat.zero_add, List.nil_append] at ho7; have hB7 := (ext_alloc w6 _).trans (hon7.below (by simp) (fun j hj e => by have := Option.some.inj e; omega)); have hB7o := HB6.out.trans (hB7.mono hsW); have r0 := ((bcell hB7o).1 bb _ hbb).trans lc0; have r1 := ((bcell hB7o).1 bb _ hbb).trans lc1; have r2 := ((bcell hB7o).1 bb _ hbb).trans lc2; have hg7n : ∀ j, g7 = some j → w6.heap.size ≤ j := (fun j h => by rcases hg7 with e | e <;> rw [e] at h <;> have h := Option.some.inj h <;> first | omega | (simp at h; omega)); have Hg7 := Lib.hid hg7n; have Ho7 := Lib.hid ho7; have HB7 := Lib.hid hB7o; have hs7 := hB7.size; clear ho7 hg7 hon7 hB7 hB7o hg7n)
              | (at_builtin; refine wpList_app rfl (.tmp 36) (.tmp 41) 53 53 rfl hE (Ho7.out.alloc _) rfl rfl (srcManyE Try.underlying53 _ [_, _, _] _ _ 3 _ (by simp) rfl (by simp [Value.oneCell'])) (by simp [maxLen]; omega) (by omega) ?_; intro ao8 cap8 g8 w8 ho8 hg8 hon8; have hB8 : Below w6.heap.size w7 w8 := ((ext_alloc w7 _).mono hs7).trans (hon8.below (by simp; omega) (fun j hj e => by have := Hg7.out j e; omega)); have hg8n : ∀ j, g8 = some j → w6.heap.size ≤ j := (fun j h => by rcases hg8 with e | e <;> rw [e] at h <;> first | exact Hg7.out j h | (have h := Option.some.inj h; first | omega | (simp at h; omega))); have Hg8 := Lib.hid hg8n; have Ho8 := Lib.hid ho8; have HB8 := Lib.hid (HB7.out.trans (hB8.mono hsW)); have hs8 := hB8.size; clear ho8 hg8 hon8 hB8 hg8n)
              | (at_builtin; refine wpList_app rfl (.tmp 43) (.tmp 46) 53 53 rfl hE Ho8.out rfl rfl (Hsrc2.out _ HB8.out _) (by simp [maxLen]; omega) (by first | omega | (simp; omega)) ?_; intro ao9 cap9 g9 w9 ho9 hg9 hon9; have hB9 : Below w6.heap.size w8 w9 := hon9.below (by omega) (fun j hj e => by have := Hg8.out j e; omega); have hg9n : ∀ j, g9 = some j → w6.heap.size ≤ j := (fun j h => by rcases hg9 with e | e <;> rw [e] at h <;> first | exact Hg8.out j h | (have h := Option.some.inj h; first | omega | (simp at h; omega))); have Hg9 := Lib.hid hg9n; have Ho9 := Lib.hid ho9; have HB9 := Lib.hid (HB8.out.trans (hB9.mono hsW)); clear ho9 hg9 hon9 hB9 hg9n))
            go_roundw
            case rel =>
              have ho9 := Ho9.out
              obtain ⟨b9, hgb, rfl, hb9⟩ := ho9.pos (by omega)
              have hcl := ho9.capLe
              have hlen : (sortR (l.take (k + 1))).length = k + 1 := by rw [sortR_len]; simp; omega
              have hsW := HB6.out.size
              refine ⟨k + 1, b9, cap9, by omega, by go_num, by congr 1; first | omega | (have := Hqke.out; omega), by first | omega | (have := Hqke.out; omega), hcl.2, ?_, HB.out.trans (HB9.out.mono HB.out.size)⟩
              rw [Hst.out]
              have hA1 := all2_mono (fp' := fun k => w.heap.size ≤ k) Hall1.out (fun b _ hl => HB9.out.block b hl) HB9.out.size (fun _ h => h)
              have hA2 := all2_mono (fp' := fun k => w.heap.size ≤ k) Hall2.out (fun b _ hl => HB9.out.block b hl) HB9.out.size (fun _ h => h)
              have hlr : (out.take q ++ [(x0, x1, x2)] ++ out.drop q).length = q + 1 + (k - q) := by have := Hkl.out; simp; first | omega | (have := Hqke.out; omega)
              have hJ : OwnS edgeRep (fun k => w.heap.size ≤ k) w9 (some ⟨b9, 0, none⟩) cap9 g9 24 (out.take q ++ [(x0, x1, x2)] ++ out.drop q) := ⟨css1 ++ [edgeCs (x0, x1, x2)] ++ css2, by rw [hlr]; simpa [edgeCs] using (show Own w9 (some ⟨b9, 0, none⟩) cap9 g9 24 edgeRep.size (q + 1 + (k - q)) _ from ho9), all2_append (all2_append hA1 (.cons (edgeRep_ok Hok.out) .nil)) hA2⟩
              exact hJ.rd.mono (fun b h _ => h.elim id (fun h => by have := Hg9.out b h; have := HB.out.size; omega))
            case measure => simp [intOf]; omega
          · have hqk : decide ((q : Int) < (k : Int)) = false := decide_eq_false (by omega)
            have hqke : q = k := by omega
            have hq0 : (0 : Int) ≤ (q : Int) := by omega
            have hk0 : (0 : Int) ≤ (k : Int) := by omega
            have hqkN : decide (q < k) = false := decide_eq_false (by omega)
            have Hqke := Lib.hid hqke
            have Hqk' := Lib.hid hqk'
            clear hqke hqk'
            have HBi := Lib.hid hBi
            clear hBi
            by_cases hcc : cap' = q
            · have hcc' : q = cap' := hcc.symm
              subst hcc'
              have hkc : (k : Int) ≤ (q : Int) := by have := Hqke.out; omega
              go_wp2_with fail
              go_quiet (fail)
              obtain ⟨wq, hwq⟩ : ∃ z, wr.drewN nq = z := ⟨_, rfl⟩
              have HBq := Lib.hid (show Below wo.heap.size wo wq by rw [← hwq]; exact below_drewN HBi.out _)
              rw [hwq]
              clear hwq hcc
              obtain ⟨css2, hall2, hsrc2⟩ := (RdS.nil edgeRep (fun k => w.heap.size ≤ k) wo (some ⟨b, 0, none⟩)).srcAll oneEdge (P := Try.prog) (tx := 53) Try.underlying53
              have Hsrc2 := Lib.hid (fun W' h => hsrc2 W' h 0)
              have hde : out.drop q = [] := List.drop_eq_nil_of_le (by have := Hkl.out; omega)
              rw [← hde] at hall2
              have Hall2 := Lib.hid hall2
              clear hall2 hsrc2 hde
              obtain ⟨css1, hall1, hsrc1⟩ := (HO.out.take q).srcAll oneEdge (P := Try.prog) (tx := 53) Try.underlying53
              have hl1 : (out.take q).length = q := by have := Hkl.out; rw [List.length_take]; omega
              rw [hl1] at hsrc1
              have Hsrc1 := Lib.hid hsrc1
              have Hall1 := Lib.hid hall1
              have hsW := HBq.out.size
              try have hqc : (q : Int) ≤ (cap' : Int) := by omega
              have hqk3 : (q : Int) ≤ (k : Int) := by omega
              try have hkc : (k : Int) ≤ (cap' : Int) := by omega
              have hkc2 : (k : Int) ≤ (l.length : Int) := by omega
              clear hall1 hsrc1 hl1
              go_wp2_with (first
                | (at_builtin; refine wpList_app rfl (.tmp 31) (.tmp 34) 53 53 rfl hE (Own.emptyAt _ 24 3 _ (by simp)) rfl rfl (Hsrc1.out _ (HBq.out.alloc hsW _) _) (by simp [maxLen]; omega) (by omega) ?_; intro ao7 cap7 g7 w7 ho7 hg7 hon7; rw [Nat.zero_add, List.nil_append] at ho7; have hB7 := (ext_alloc wq _).trans (hon7.below (by simp) (fun j hj e => by have := Option.some.inj e; omega)); have hB7o := HBq.out.trans (hB7.mono hsW); have r0 := ((bcell hB7o).1 bb _ hbb).trans lc0; have r1 := ((bcell hB7o).1 bb _ hbb).trans lc1; have r2 := ((bcell hB7o).1 bb _ hbb).trans lc2; have hg7n : ∀ j, g7 = some j → wq.heap.size ≤ j := (fun j h => by rcases hg7 with e | e <;> rw [e] at h <;> have h := Option.some.inj h <;> first | omega | (simp at h; omega)); have Hg7 := Lib.hid hg7n; have Ho7 := Lib.hid ho7; have HB7 := Lib.hid hB7o; have hs7 := hB7.size; clear ho7 hg7 hon7 hB7 hB7o hg7n)
                | (at_builtin; refine wpList_app rfl (.tmp 36) (.tmp 41) 53 53 rfl hE (Ho7.out.alloc _) rfl rfl (srcManyE Try.underlying53 _ [_, _, _] _ _ 3 _ (by simp) rfl (by simp [Value.oneCell'])) (by simp [maxLen]; omega) (by omega) ?_; intro ao8 cap8 g8 w8 ho8 hg8 hon8; have hB8 : Below wq.heap.size w7 w8 := ((ext_alloc w7 _).mono hs7).trans (hon8.below (by simp; omega) (fun j hj e => by have := Hg7.out j e; omega)); have hg8n : ∀ j, g8 = some j → wq.heap.size ≤ j := (fun j h => by rcases hg8 with e | e <;> rw [e] at h <;> first | exact Hg7.out j h | (have h := Option.some.inj h; first | omega | (simp at h; omega))); have Hg8 := Lib.hid hg8n; have Ho8 := Lib.hid ho8; have HB8 := Lib.hid (HB7.out.trans (hB8.mono hsW)); have hs8 := hB8.size; clear ho8 hg8 hon8 hB8 hg8n)
                | (at_builtin; refine wpList_app rfl (.tmp 43) (.tmp 46) 53 53 rfl hE Ho8.out rfl rfl (Hsrc2.out _ HB8.out) (by simp [maxLen]; omega) (by first | omega | (simp; omega)) ?_; intro ao9 cap9 g9 w9 ho9 hg9 hon9; have hB9 : Below wq.heap.size w8 w9 := hon9.below (by omega) (fun j hj e => by have := Hg8.out j e; omega); have hg9n : ∀ j, g9 = some j → wq.heap.size ≤ j := (fun j h => by rcases hg9 with e | e <;> rw [e] at h <;> first | exact Hg8.out j h | (have h := Option.some.inj h; first | omega | (simp at h; omega))); have Hg9 := Lib.hid hg9n; have Ho9 := Lib.hid ho9; have HB9 := Lib.hid (HB8.out.trans (hB9.mono hsW)); clear ho9 hg9 hon9 hB9 hg9n))
              go_roundw
              case rel =>
                have ho9 := Ho9.out
                obtain ⟨b9, hgb, rfl, hb9⟩ := ho9.pos (by omega)
                have hcl := ho9.capLe
                have hlen : (sortR (l.take (k + 1))).length = k + 1 := by rw [sortR_len]; simp; omega
                have hsW := HBq.out.size
                refine ⟨k + 1, b9, cap9, by omega, by go_num, by congr 1; first | omega | (have := Hqke.out; omega), by first | omega | (have := Hqke.out; omega), hcl.2, ?_, HB.out.trans (HB9.out.mono HB.out.size)⟩
                rw [Hst.out]
                have hA1 := all2_mono (fp' := fun k => w.heap.size ≤ k) Hall1.out (fun b _ hl => HB9.out.block b hl) HB9.out.size (fun _ h => h)
                have hA2 := all2_mono (fp' := fun k => w.heap.size ≤ k) Hall2.out (fun b _ hl => HB9.out.block b hl) HB9.out.size (fun _ h => h)
                have hlr : (out.take q ++ [(x0, x1, x2)] ++ out.drop q).length = q + 1 + 0 := by have := Hkl.out; simp; first | omega | (have := Hqke.out; omega)
                have hJ : OwnS edgeRep (fun k => w.heap.size ≤ k) w9 (some ⟨b9, 0, none⟩) cap9 g9 24 (out.take q ++ [(x0, x1, x2)] ++ out.drop q) := ⟨css1 ++ [edgeCs (x0, x1, x2)] ++ css2, by rw [hlr]; simpa [edgeCs] using (show Own w9 (some ⟨b9, 0, none⟩) cap9 g9 24 edgeRep.size (q + 1 + 0) _ from ho9), all2_append (all2_append hA1 (.cons (edgeRep_ok Hok.out) .nil)) hA2⟩
                exact hJ.rd.mono (fun b h _ => h.elim id (fun h => by have := Hg9.out b h; have := HB.out.size; omega))
              case measure => simp [intOf]; omega
            · have hcq1 : (q : Int) < (cap' : Int) := by have := Hqke.out; omega
              go_wp2_with fail
              go_quiet (fail)
              obtain ⟨wq, hwq⟩ : ∃ z, wr.drewN nq = z := ⟨_, rfl⟩
              have HBq := Lib.hid (show Below wo.heap.size wo wq by rw [← hwq]; exact below_drewN HBi.out _)
              rw [hwq]
              clear hwq
              have hdr := HO.out.drop q
              rw [Nat.zero_add] at hdr
              have hdr2 : RdS edgeRep _ _ (some ⟨b, q * 3, none⟩) (out.drop q) := hdr
              obtain ⟨css2, hall2, hsrc2⟩ := hdr2.srcAll oneEdge (P := Try.prog) (tx := 53) Try.underlying53
              have hl2 : (out.drop q).length = k - q := by have := Hkl.out; rw [List.length_drop]; omega
              rw [hl2] at hsrc2
              have Hsrc2 := Lib.hid hsrc2
              have Hall2 := Lib.hid hall2
              clear hall2 hsrc2 hl2 hdr hdr2
              obtain ⟨css1, hall1, hsrc1⟩ := (HO.out.take q).srcAll oneEdge (P := Try.prog) (tx := 53) Try.underlying53
              have hl1 : (out.take q).length = q := by have := Hkl.out; rw [List.length_take]; omega
              rw [hl1] at hsrc1
              have Hsrc1 := Lib.hid hsrc1
              have Hall1 := Lib.hid hall1
              have hsW := HBq.out.size
              try have hqc : (q : Int) ≤ (cap' : Int) := by omega
              have hqk3 : (q : Int) ≤ (k : Int) := by omega
              try have hkc : (k : Int) ≤ (cap' : Int) := by omega
              have hkc2 : (k : Int) ≤ (l.length : Int) := by omega
              clear hall1 hsrc1 hl1
              go_wp2_with (first
                | (at_builtin; refine wpList_app rfl (.tmp 31) (.tmp 34) 53 53 rfl hE (Own.emptyAt _ 24 3 _ (by simp)) rfl rfl (Hsrc1.out _ (HBq.out.alloc hsW _) _) (by simp [maxLen]; omega) (by omega) ?_; intro ao7 cap7 g7 w7 ho7 hg7 hon7; rw [Nat.zero_add, List.nil_append] at ho7; have hB7 := (ext_alloc wq _).trans (hon7.below (by simp) (fun j hj e => by have := Option.some.inj e; omega)); have hB7o := HBq.out.trans (hB7.mono hsW); have r0 := ((bcell hB7o).1 bb _ hbb).trans lc0; have r1 := ((bcell hB7o).1 bb _ hbb).trans lc1; have r2 := ((bcell hB7o).1 bb _ hbb).trans lc2; have hg7n : ∀ j, g7 = some j → wq.heap.size ≤ j := (fun j h => by rcases hg7 with e | e <;> rw [e] at h <;> have h := Option.some.inj h <;> first | omega | (simp at h; omega)); have Hg7 := Lib.hid hg7n; have Ho7 := Lib.hid ho7; have HB7 := Lib.hid hB7o; have hs7 := hB7.size; clear ho7 hg7 hon7 hB7 hB7o hg7n)
                | (at_builtin; refine wpList_app rfl (.tmp 36) (.tmp 41) 53 53 rfl hE (Ho7.out.alloc _) rfl rfl (srcManyE Try.underlying53 _ [_, _, _] _ _ 3 _ (by simp) rfl (by simp [Value.oneCell'])) (by simp [maxLen]; omega) (by omega) ?_; intro ao8 cap8 g8 w8 ho8 hg8 hon8; have hB8 : Below wq.heap.size w7 w8 := ((ext_alloc w7 _).mono hs7).trans (hon8.below (by simp; omega) (fun j hj e => by have := Hg7.out j e; omega)); have hg8n : ∀ j, g8 = some j → wq.heap.size ≤ j := (fun j h => by rcases hg8 with e | e <;> rw [e] at h <;> first | exact Hg7.out j h | (have h := Option.some.inj h; first | omega | (simp at h; omega))); have Hg8 := Lib.hid hg8n; have Ho8 := Lib.hid ho8; have HB8 := Lib.hid (HB7.out.trans (hB8.mono hsW)); have hs8 := hB8.size; clear ho8 hg8 hon8 hB8 hg8n)
                | (at_builtin; refine wpList_app rfl (.tmp 43) (.tmp 46) 53 53 rfl hE Ho8.out rfl rfl (Hsrc2.out _ HB8.out _) (by simp [maxLen]; omega) (by first | omega | (simp; omega)) ?_; intro ao9 cap9 g9 w9 ho9 hg9 hon9; have hB9 : Below wq.heap.size w8 w9 := hon9.below (by omega) (fun j hj e => by have := Hg8.out j e; omega); have hg9n : ∀ j, g9 = some j → wq.heap.size ≤ j := (fun j h => by rcases hg9 with e | e <;> rw [e] at h <;> first | exact Hg8.out j h | (have h := Option.some.inj h; first | omega | (simp at h; omega))); have Hg9 := Lib.hid hg9n; have Ho9 := Lib.hid ho9; have HB9 := Lib.hid (HB8.out.trans (hB9.mono hsW)); clear ho9 hg9 hon9 hB9 hg9n))
              go_roundw
              case rel =>
                have ho9 := Ho9.out
                obtain ⟨b9, hgb, rfl, hb9⟩ := ho9.pos (by omega)
                have hcl := ho9.capLe
                have hlen : (sortR (l.take (k + 1))).length = k + 1 := by rw [sortR_len]; simp; omega
                have hsW := HBq.out.size
                refine ⟨k + 1, b9, cap9, by omega, by go_num, by congr 1; first | omega | (have := Hqke.out; omega), by first | omega | (have := Hqke.out; omega), hcl.2, ?_, HB.out.trans (HB9.out.mono HB.out.size)⟩
                rw [Hst.out]
                have hA1 := all2_mono (fp' := fun k => w.heap.size ≤ k) Hall1.out (fun b _ hl => HB9.out.block b hl) HB9.out.size (fun _ h => h)
                have hA2 := all2_mono (fp' := fun k => w.heap.size ≤ k) Hall2.out (fun b _ hl => HB9.out.block b hl) HB9.out.size (fun _ h => h)
                have hlr : (out.take q ++ [(x0, x1, x2)] ++ out.drop q).length = q + 1 + (k - q) := by have := Hkl.out; simp; first | omega | (have := Hqke.out; omega)
                have hJ : OwnS edgeRep (fun k => w.heap.size ≤ k) w9 (some ⟨b9, 0, none⟩) cap9 g9 24 (out.take q ++ [(x0, x1, x2)] ++ out.drop q) := ⟨css1 ++ [edgeCs (x0, x1, x2)] ++ css2, by rw [hlr]; simpa [edgeCs] using (show Own w9 (some ⟨b9, 0, none⟩) cap9 g9 24 edgeRep.size (q + 1 + (k - q)) _ from ho9), all2_append (all2_append hA1 (.cons (edgeRep_ok Hok.out) .nil)) hA2⟩
                exact hJ.rd.mono (fun b h _ => h.elim id (fun h => by have := Hg9.out b h; have := HB.out.size; omega))
              case measure => simp [intOf]; omega
    · obtain rfl : k = l.length := by omega
      have hlen := sortR_len l
      have e : sortR (l.take l.length) = sortR l := by rw [List.take_length]
      rw [e] at hO
      have HO := Lib.hid hO
      have HB := Lib.hid hB
      have Hl := Lib.hid hlen
      clear hO hB hlen e
      go_wp2_with fail
      go_ret
      exact ⟨_, cap', by simp [Hl.out], by rw [Hl.out]; exact hc1, hc2, HO.out, HB.out⟩
end Go.Proofs.Ytafbjkbdfdeacaa
