/- Texts merged into one: GraphFind, GraphRows, GraphLaw, GraphEdges, GraphVerts. -/
import Derived.Test.YtlgnpogmgpgdaaaGraphPlain
import Derived.Test.YtlgnpogmgpgdaaaArcFind
import Derived.Test.YtlgnpogmgpgdaaaArcMay
import Derived.Test.YtlgnpogmgpgdaaaBdRows
import Derived.Test.YtlgnpogmgpgdaaaStoreRow
import Derived.Test.YtlgnpogmgpgdaaaJobMayP

namespace Go.Proofs.Ytlgnpogmgpgdaaa
set_option linter.unusedSimpArgs false
set_option linter.unusedVariables false
set_option maxRecDepth 100000
open Go.RowKit

/-- arcs that a call hands over, in memory of their own -/
def OwnArcs (l : List ArcD) (w : World) (e : Ending) (w' : World) : Prop :=
  ∃ a c g, e = .returned (.slice a l.length c) ∧ OwnS arcRep (fun _ => False) w' a c g 42 l ∧ (∀ k, g = some k → w.heap.size ≤ k) ∧ Below w.heap.size w w'
theorem arcs_nofp {w : World} {fp : Nat → Prop} {l : List ArcD} {css : List (List Value)} (h : All2 (fun x cs => arcRep.ok w fp x cs) l css) (w' : World) : All2 (fun x cs => arcRep.ok w' (fun _ => False) x cs) l css :=
  forall2_imp (fun x cs h => by obtain ⟨c, d, h1, h2, h3⟩ := h; exact ⟨c, d, h1, h2, h3⟩) h
set_option maxHeartbeats 1600000 in
theorem arcclone_any (l : List ArcD) (ao : Option Addr) (cap : Nat) (fp : Nat → Prop) (w : World) (hl : l.length ≤ 1073741824) (hrd : RdS arcRep fp w ao l) :
    Calls Try.prog 69 #[.slice ao l.length cap] w (OwnArcs l w) := by
  have hE := arcElem
  obtain ⟨css, hall, hsrc⟩ := RdS.srcAll oneArc (tx := 31) Try.underlying31 hrd
  have Hsrc := Lib.hid (hsrc _ (ext_alloc w (.cells #[] 42)) cap)
  have Hall := Lib.hid hall
  clear hsrc hall
  cases ao with
  | none =>
    have hl0 : l = [] := by rcases hrd with h | ⟨b, off, h, _⟩; exact h; cases h
    subst hl0
    have hnil : (binOp .eql 31 (.slice none 0 cap) (.slice none 0 0)).run Try.prog w = .ok (.bool true) w := Go.run_eql_slice_nil w _ _ _ _ _ Try.underlying31
    clear hrd
    go_enter Try.func69, Try.ntmps69
    go_wp2
    go_ret
    exact ⟨none, 0, none, rfl, OwnS.nil _ _ _ _, (fun k h => by cases h), Below.refl _ _⟩
  | some a =>
    have hnil : (binOp .eql 31 (.slice (some a) l.length cap) (.slice none 0 0)).run Try.prog w = .ok (.bool false) w := Go.run_eql_slice_nil w _ _ _ _ _ Try.underlying31
    clear hrd
    go_enter Try.func69, Try.ntmps69
    go_wp2_with (at_builtin; refine wpList_app rfl (.tmp 5) (.tmp 6) 31 31 rfl hE (Own.emptyAt w 42 2 w.heap.size rfl) rfl rfl Hsrc.out (by simp [maxLen]; omega) (by omega) ?_; intro ao4 cap4 g4 W4 ho4 hg4 hon4; obtain ⟨hG, hBB⟩ := app_blocksM (w := w) (W := w.alloc (.cells #[] 42)) (fun k h => by cases h; exact Nat.le_refl _) (ext_alloc w _) hg4 hon4; have Ho4 := Lib.hid ho4; clear ho4 hg4 hon4)
    go_ret
    exact ⟨ao4, cap4, g4, by simp, ⟨css, (by simpa using Ho4.out : Own W4 ao4 cap4 g4 42 2 l.length css.flatten), arcs_nofp Hall.out _⟩, hG, hBB⟩

/-- rows behind a graph's address; none: nil, no rows -/
def GraphIs (w : World) (fp : Nat → Prop) (p : Option Nat) (R : List RowD) : Prop := match p with
  | none => R = []
  | some g => fp g ∧ ∃ ra rc, w.heap[g]? = some (.cells #[.slice ra R.length rc] 119 (0, 0)) ∧ R.length ≤ rc ∧ rc ≤ maxLen ∧ RdS rowRep fp w ra R
def gV (p : Option Nat) : Value := .pointer (p.map fun g => ⟨g, 0, none⟩)
theorem GraphIs.keep {w w' : World} {fp : Nat → Prop} {p : Option Nat} {R : List RowD} (h : GraphIs w fp p R) (hk : ∀ b, fp b → b < w.heap.size → w'.heap[b]? = w.heap[b]?) (hs : w.heap.size ≤ w'.heap.size) : GraphIs w' fp p R := by
  cases p with
  | none => exact h
  | some g =>
    obtain ⟨h0, ra, rc, h1, h2, h3, h4⟩ := h
    exact ⟨h0, ra, rc, (hk g h0 (Array.getElem?_eq_some_iff.1 h1).1).trans h1, h2, h3, h4.keep hk hs⟩
theorem GraphIs.ext {w w' : World} {fp : Nat → Prop} {p : Option Nat} {R : List RowD} (h : GraphIs w fp p R) (hB : Below w.heap.size w w') : GraphIs w' fp p R := h.keep (fun b _ hl => hB.block b hl) hB.size
theorem GraphIs.only {w w' : World} {fp gp : Nat → Prop} {p : Option Nat} {R : List RowD} (h : GraphIs w fp p R) (ho : Only gp w w') (hn : ∀ b, fp b → b < w.heap.size → ¬ gp b) : GraphIs w' fp p R :=
  h.keep (fun b hb hl => ho.same b hl (hn b hb hl)) ho.size
theorem GraphIs.stays {w w' : World} {fp gp : Nat → Prop} {p : Option Nat} {R : List RowD} (h : GraphIs w fp p R) (hs : Stays gp w w') (hm : ∀ b, fp b → b < w.heap.size → gp b) : GraphIs w' fp p R :=
  h.keep (fun b hb hl => hs.same b (hm b hb hl)) hs.size
theorem GraphIs.mono {w : World} {fp fp' : Nat → Prop} {p : Option Nat} {R : List RowD} (h : GraphIs w fp p R) (hm : ∀ b, fp b → b < w.heap.size → fp' b) : GraphIs w fp' p R := by
  cases p with
  | none => exact h
  | some g =>
    obtain ⟨h0, ra, rc, h1, h2, h3, h4⟩ := h
    exact ⟨hm g h0 (Array.getElem?_eq_some_iff.1 h1).1, ra, rc, h1, h2, h3, h4.mono hm⟩
set_option maxHeartbeats 1600000 in
theorem glen_any (p : Option Nat) (R : List RowD) (fp : Nat → Prop) (w : World) (hg : GraphIs w fp p R) :
    Calls Try.prog 27 #[gV p] w fun e w' => e = .returned (.int .i64 (R.length : Nat)) ∧ w' = w := by
  cases p with
  | none =>
    obtain rfl : R = [] := hg
    show Calls Try.prog 27 #[.pointer none] w _
    go_enter Try.func27, Try.ntmps27
    go_wp2
    go_ret
    exact ⟨rfl, rfl⟩
  | some g =>
    obtain ⟨_, ra, rc, h1, h2, h3, _⟩ := hg
    have hc : w.cell? ⟨g, 0, none⟩ = some (.slice ra R.length rc) := cell_of_row w g 0 _ _ (0, 0) h1
    clear h1 h2 h3
    show Calls Try.prog 27 #[.pointer (some ⟨g, 0, none⟩)] w _
    go_enter Try.func27, Try.ntmps27
    go_wp2
    go_ret
    exact ⟨rfl, rfl⟩

/-! ### find -/
set_option maxHeartbeats 1600000 in
theorem gfind1_any (a0 : Nat) (ra : Option Addr) (n rc : Nat) (tv : Nat) (w : World) : Calls Try.prog 99 #[.agg #[.int .u32 (a0 : Nat), .slice ra n rc], .int .u32 (tv : Nat)] w (RetB (.int .i64 (cmpN a0 tv)) w) := by
  have HC := Lib.hid (fun W => cmp32_any a0 tv W)
  generalize cmpN a0 tv = r at *
  go_enter Try.func99, Try.ntmps99
  go_wp2_with (go_at_call 80; refine (HC.out _).mono ?_; rintro e w' ⟨rfl, rfl⟩)
  go_ret
  exact ⟨rfl, ext_alloc _ _⟩
def rsI (l : List RowD) (tv : Nat) (w : World) (v9 v10 : Value) (wr : World) : Prop :=
  ∃ i j : Nat, i ≤ j ∧ j ≤ l.length ∧ v9 = .int .i64 (i : Nat) ∧ v10 = .int .i64 (j : Nat) ∧ (∀ k (h : k < l.length), k < i → l[k].1 < tv) ∧ (∀ k (h : k < l.length), j ≤ k → tv ≤ l[k].1) ∧ Below w.heap.size w wr
def thereM (l : List RowD) (tv : Nat) : Bool := l.any (fun r => r.1 == tv)
def FindRowRet (l : List RowD) (tv : Nat) (w : World) (e : Ending) (w' : World) : Prop :=
  ∃ i : Nat, i ≤ l.length ∧ e = .returned (.tuple #[.int .i64 (i : Nat), .bool (thereM l tv)]) ∧ (thereM l tv = true → ∃ h : i < l.length, l[i].1 = tv) ∧ Below w.heap.size w w'
theorem there_at {l : List RowD} {tv i : Nat} (hp : l.Pairwise (fun a b => a.1 < b.1)) (h1 : ∀ k (h : k < l.length), k < i → l[k].1 < tv) (h2 : ∀ k (h : k < l.length), i ≤ k → tv ≤ l[k].1) :
    thereM l tv = (if h : i < l.length then (l[i].1 == tv) else false) := by
  unfold thereM
  rw [Bool.eq_iff_iff, List.any_eq_true]
  constructor
  · rintro ⟨a, ha, e⟩
    obtain ⟨k, hk, rfl⟩ := List.mem_iff_getElem.1 ha
    rw [beq_iff_eq] at e
    have hik : i ≤ k := by
      rcases Nat.lt_or_ge k i with h | h
      · have := h1 k hk h; omega
      · exact h
    have hi : i < l.length := by omega
    rw [dif_pos hi, beq_iff_eq]
    rcases Nat.lt_or_ge i k with h | h
    · have a1 := List.pairwise_iff_getElem.1 hp i k hi hk h
      have a2 := h2 i hi (Nat.le_refl _)
      omega
    · obtain rfl : i = k := by omega
      exact e
  · intro h
    split at h
    · rename_i hi
      exact ⟨l[i], List.getElem_mem hi, h⟩
    · cases h
theorem rs_up {l : List RowD} {tv h : Nat} (hp : l.Pairwise (fun a b => a.1 < b.1)) (hh : h < l.length) (hc : l[h].1 < tv) : ∀ k (hk : k < l.length), k < h + 1 → l[k].1 < tv := fun k hk hkh => by
  rcases Nat.lt_or_ge k h with e | e
  · have := List.pairwise_iff_getElem.1 hp k h hk hh e; omega
  · obtain rfl : k = h := by omega
    exact hc
theorem rs_down {l : List RowD} {tv h : Nat} (hp : l.Pairwise (fun a b => a.1 < b.1)) (hh : h < l.length) (hc : tv ≤ l[h].1) : ∀ k (hk : k < l.length), h ≤ k → tv ≤ l[k].1 := fun k hk hkh => by
  rcases Nat.lt_or_ge h k with e | e
  · have := List.pairwise_iff_getElem.1 hp h k hh hk e; omega
  · obtain rfl : k = h := by omega
    exact hc
theorem arcs15_at {l : List RowD} (hp : l.Pairwise (fun a b => a.1 < b.1)) {i : Nat} (hi : i < l.length) : arcs15M l l[i].1 = l[i].2 := by
  have h : l.find? (fun r => r.1 == l[i].1) = some l[i] := by
    rw [List.find?_eq_some_iff_getElem]
    refine ⟨by simp, i, hi, rfl, fun j hj => ?_⟩
    have := List.pairwise_iff_getElem.1 hp j i (by omega) hi hj
    simp; omega
  simp only [arcs15M, h]
theorem arcs15_no {l : List RowD} {v : Nat} (h : thereM l v = false) : arcs15M l v = [] := by
  have h : l.find? (fun r => r.1 == v) = none := by
    rw [List.find?_eq_none]
    intro r hr e
    have : thereM l v = true := by unfold thereM; rw [List.any_eq_true]; exact ⟨r, hr, e⟩
    rw [h] at this; cases this
  simp only [arcs15M, h]
set_option maxRecDepth 100000 in
set_option maxHeartbeats 3200000 in
theorem rsearch_any (l : List RowD) (tv : Nat) (ao : Option Addr) (cap : Nat) (fp : Nat → Prop) (w : World) (hl : l.length ≤ 100000) (hp : l.Pairwise (fun a b => a.1 < b.1)) (hrd : RdS rowRep fp w ao l) :
    Calls Try.prog 98 #[.slice ao l.length cap, .int .u32 (tv : Nat), .func (.func 99) #[] #[]] w (FindRowRet l tv w) := by
  have Hp := Lib.hid hp
  have Hrd := Lib.hid hrd
  have HF := Lib.hid (fun a0 ra n rc W => gfind1_any a0 ra n rc tv W)
  clear hp hrd
  go_enter Try.func98, Try.ntmps98
  go_wp2_with fail
  go_loopw [9, 10] (fun v9 v10 wr => rsI l tv w v9 v10 wr) (fun v9 v10 _ => (intOf v10).toNat - (intOf v9).toNat)
  case atStart => exact ⟨0, l.length, by omega, Nat.le_refl _, rfl, rfl, fun k h hk => by omega, fun k h hk => by omega, Below.refl _ _⟩
  case round =>
    obtain ⟨i, j, hij, hj, rfl, rfl, hlo, hhi, hB⟩ := hrel
    rename World => wo
    have HB := Lib.hid hB
    have Hlo := Lib.hid hlo
    have Hhi := Lib.hid hhi
    have hbs := hB.size
    clear hB hlo hhi
    by_cases hlt : i < j
    · obtain ⟨h, hh⟩ : ∃ h, (i + j) / 2 = h := ⟨_, rfl⟩
      have hhl : h < l.length := by omega
      obtain ⟨b, off, ra, rc, rfl, hb, hc0', hc1', hok, _, _, _⟩ := Hrd.out.row h hhl
      have hc0 := ((bcell HB.out).1 _ _ hb).trans hc0'
      have hc1 := ((bcell HB.out).1 _ _ hb).trans hc1'
      have hm1 : ((i : Int) + (j : Int)) / 2 = (h : Int) := by omega
      have d0 : decide (i < j) = true := decide_eq_true hlt
      have hir : (h : Int) < (l.length : Int) := by omega
      have hih : i ≤ h ∧ h < j := by omega
      clear hc0' hc1' hh
      obtain ⟨x, hx⟩ : ∃ x, l[h] = x := ⟨_, rfl⟩
      rw [hx] at hc0 hc1 hok
      have Hx := Lib.hid hx
      clear hx
      obtain ⟨x0, x1⟩ := x
      simp only at hc0 hc1
      generalize x1.length = xn at hc1
      by_cases hcx : x0 < tv
      · have hcm : cmpN x0 tv = -1 := by unfold cmpN; rw [if_pos hcx]
        have HFx := Lib.hid (fun W => HF.out x0 ra xn rc W)
        rw [hcm] at HFx
        have HN := Lib.hid (rs_up Hp.out hhl (show l[h].1 < tv by rw [Hx.out]; exact hcx))
        clear hcm hcx
        go_wp2_with (go_at_call 99; (with_reducible refine (HFx.out _).mono ?_); rintro e w2 ⟨rfl, hB2⟩; have HB2 := Lib.hid hB2; clear hB2)
        go_roundw
        case rel => exact ⟨h + 1, j, by omega, hj, by go_num, rfl, HN.out, Hhi.out, HB.out.trans (HB2.out.mono hbs)⟩
        case measure => simp [intOf]; omega
      · have hcm : decide (cmpN x0 tv < 0) = false := decide_eq_false (by unfold cmpN; rw [if_neg hcx]; split <;> omega)
        have HFx := Lib.hid (fun W => HF.out x0 ra xn rc W)
        have HN := Lib.hid (rs_down Hp.out hhl (show tv ≤ l[h].1 by rw [Hx.out]; exact Nat.le_of_not_lt hcx))
        generalize cmpN x0 tv = c at *
        clear hcx
        go_wp2_with (go_at_call 99; (with_reducible refine (HFx.out _).mono ?_); rintro e w2 ⟨rfl, hB2⟩; have HB2 := Lib.hid hB2; clear hB2)
        go_roundw
        case rel => exact ⟨i, h, by omega, by omega, rfl, rfl, Hlo.out, HN.out, HB.out.trans (HB2.out.mono hbs)⟩
        case measure => simp [intOf]; omega
    · obtain rfl : i = j := by omega
      have d0 : decide ((i : Int) < (i : Int)) = false := decide_eq_false (by omega)
      have d0' : decide (i < i) = false := decide_eq_false (by omega)
      have hN := there_at Hp.out Hlo.out Hhi.out
      by_cases hi : i < l.length
      · rw [dif_pos hi] at hN
        obtain ⟨b, off, ra, rc, rfl, hb, hc0', hc1', hok, _, _, _⟩ := Hrd.out.row i hi
        have hc0 := ((bcell HB.out).1 _ _ hb).trans hc0'
        have hc1 := ((bcell HB.out).1 _ _ hb).trans hc1'
        have d1 : decide (i < l.length) = true := decide_eq_true hi
        have d1' : decide ((i : Int) < (l.length : Int)) = true := decide_eq_true (by omega)
        have hir : (i : Int) < (l.length : Int) := by omega
        have Hi := Lib.hid hi
        clear hc0' hc1'
        generalize hx : l[i]'hi = x at hc0 hc1 hok hN
        have Hx := Lib.hid hx
        clear hx
        obtain ⟨x0, x1⟩ := x
        simp only at hc0 hc1 hN
        generalize x1.length = xn at hc1
        have hcm : (cmpN x0 tv == 0) = (x0 == tv) := by
          unfold cmpN
          rw [Bool.eq_iff_iff]
          simp only [beq_iff_eq]
          split
          · omega
          · split <;> omega
        have HFx := Lib.hid (fun W => HF.out x0 ra xn rc W)
        have HR := Lib.hid (show thereM l tv = true → ∃ h : i < l.length, l[i].1 = tv from fun e => ⟨Hi.out, by rw [Hx.out]; rw [hN] at e; exact beq_iff_eq.1 e⟩)
        have HN := Lib.hid hN
        have Hcm := Lib.hid hcm
        generalize cmpN x0 tv = c at *
        clear hN hcm
        go_wp2_with (go_at_call 99; (with_reducible refine (HFx.out _).mono ?_); rintro e w2 ⟨rfl, hB2⟩; have HB2 := Lib.hid hB2; clear hB2)
        go_ret2
        exact ⟨i, Nat.le_of_lt Hi.out, by rw [HN.out, ← Hcm.out]; rfl, HR.out, HB.out.trans (HB2.out.mono hbs)⟩
      · rw [dif_neg hi] at hN
        have d1 : decide (i < l.length) = false := decide_eq_false hi
        have d1' : decide ((i : Int) < (l.length : Int)) = false := decide_eq_false (by omega)
        have HN := Lib.hid hN
        clear hN hi
        go_wp2_with fail
        go_ret2
        exact ⟨i, hj, by rw [HN.out]; rfl, (fun e => by rw [HN.out] at e; cases e), HB.out⟩

/-- a vertex's arcs, where the graph has them -/
def ArcsIn (l : List ArcD) (fp : Nat → Prop) (w : World) (e : Ending) (w' : World) : Prop :=
  ∃ a c, e = .returned (.slice a l.length c) ∧ l.length ≤ c ∧ c ≤ maxLen ∧ RdS arcRep fp w' a l ∧ Below w.heap.size w w'
set_option maxHeartbeats 1600000 in
theorem gfind_any (p : Option Nat) (R : List RowD) (v : Nat) (fp : Nat → Prop) (w : World) (hl : R.length ≤ 100000) (hp : R.Pairwise (fun a b => a.1 < b.1)) (hg : GraphIs w fp p R) :
    Calls Try.prog 70 #[gV p, .int .u32 (v : Nat)] w (ArcsIn (arcs15M R v) fp w) := by
  cases p with
  | none =>
    obtain rfl : R = [] := hg
    show Calls Try.prog 70 #[.pointer none, .int .u32 (v : Nat)] w _
    go_enter Try.func70, Try.ntmps70
    go_wp2
    go_ret
    exact ⟨none, 0, rfl, Nat.le_refl _, by simp [maxLen], .inl rfl, Below.refl _ _⟩
  | some g =>
    obtain ⟨_, ra, rc, h1, h2, h3, hrd⟩ := hg
    have hgl := (Array.getElem?_eq_some_iff.1 h1).1
    have hc' : w.cell? ⟨g, 0, none⟩ = some (.slice ra R.length rc) := cell_of_row w g 0 _ _ (0, 0) h1
    have HB := Lib.hid (rsearch_any R v ra rc fp w hl hp hrd)
    have Hp := Lib.hid hp
    have Hrd := Lib.hid hrd
    clear h1 h2 h3 hp hrd
    show Calls Try.prog 70 #[.pointer (some ⟨g, 0, none⟩), .int .u32 (v : Nat)] w _
    cases ht : thereM R v with
    | false =>
      rw [arcs15_no ht]
      unfold FindRowRet at HB
      rw [ht] at HB
      clear ht
      go_enter Try.func70, Try.ntmps70
      go_wp2_with (go_at_call 98; (with_reducible refine HB.out.mono ?_); rintro e w2 ⟨i, h1, rfl, h2, h3⟩; have H3 := Lib.hid h3; clear h1 h2 h3)
      go_ret
      exact ⟨none, 0, rfl, Nat.le_refl _, by simp [maxLen], .inl rfl, H3.out⟩
    | true =>
      unfold FindRowRet at HB
      rw [ht] at HB
      clear ht
      go_enter Try.func70, Try.ntmps70
      go_upto_region 4 with (go_at_call 98; (with_reducible refine HB.out.mono ?_); rintro e w2 ⟨i, h1, rfl, h2, h3⟩; have H2 := Lib.hid (h2 rfl); have H3 := Lib.hid h3; clear h1 h2 h3)
      obtain ⟨hi, hv⟩ := H2.out
      obtain ⟨b, off, qa, qc, rfl, hb, _, hc1', _, q1, q2, q3⟩ := Hrd.out.row i hi
      have hc1 := ((bcell H3.out).1 _ _ hb).trans hc1'
      have hc := ((bcell H3.out).1 _ 0 hgl).trans hc'
      have hir : (i : Int) < (R.length : Int) := by omega
      have HQ := Lib.hid (q3.ext H3.out)
      have he := arcs15_at Hp.out hi
      rw [hv] at he
      rw [← he] at HQ q1 hc1
      have hq1 := q1
      clear hc' hc1' q3 hv he H2 q1
      go_wp2_with fail
      go_ret
      exact ⟨qa, qc, rfl, hq1, q2, HQ.out, H3.out⟩
theorem arcs15_mem {R : List RowD} {v : Nat} : arcs15M R v = [] ∨ ∃ r ∈ R, r.1 = v ∧ arcs15M R v = r.2 := by
  unfold arcs15M
  cases h : R.find? (fun r => r.1 == v) with
  | none => exact .inl rfl
  | some r => exact .inr ⟨r, List.mem_of_find?_eq_some h, by have := List.find?_some h; simpa using this, rfl⟩
set_option maxHeartbeats 1600000 in
theorem garcs_any (p : Option Nat) (R : List RowD) (v : Nat) (fp : Nat → Prop) (w : World) (hl : R.length ≤ 100000) (ha : ∀ r ∈ R, r.2.length ≤ 100000) (hp : R.Pairwise (fun a b => a.1 < b.1)) (hg : GraphIs w fp p R) :
    Calls Try.prog 29 #[gV p, .int .u32 (v : Nat)] w (OwnArcs (arcs15M R v) w) := by
  have HF := Lib.hid (gfind_any p R v fp w hl hp hg)
  have hal : (arcs15M R v).length ≤ 100000 := by
    rcases arcs15_mem (R := R) (v := v) with h | ⟨r, hr, _, h⟩
    · rw [h]; simp
    · rw [h]; exact ha r hr
  generalize arcs15M R v = l at *
  generalize gV p = pv at *
  have HC := Lib.hid (fun a c W h => arcclone_any l a c fp W (by omega) h)
  clear hp hg ha
  go_enter Try.func29, Try.ntmps29
  go_wp2_with (first
    | (go_at_call 70; (with_reducible refine HF.out.mono ?_); rintro e w2 ⟨a, c, rfl, _, _, h3, h4⟩; have H3 := Lib.hid h3; have H4 := Lib.hid h4; clear h3 h4)
    | (go_at_call 69; (with_reducible refine (HC.out _ _ _ H3.out).mono ?_); rintro e w3 ⟨a2, c2, g2, rfl, h5, h6, h7⟩; have H5 := Lib.hid h5; have H6 := Lib.hid h6; have H7 := Lib.hid h7; clear h5 h6 h7))
  go_ret
  have hs := H4.out.size
  exact ⟨a2, c2, g2, rfl, H5.out, fun k hk => Nat.le_trans hs (H6.out k hk), H4.out.trans (H7.out.mono hs)⟩
set_option maxHeartbeats 1600000 in
theorem gnear_any (p : Option Nat) (R : List RowD) (v tv : Nat) (fp : Nat → Prop) (w : World) (hl : R.length ≤ 100000) (ha : ∀ r ∈ R, r.2.length ≤ 100000 ∧ r.2.Pairwise (fun a b => a.1 < b.1)) (hp : R.Pairwise (fun a b => a.1 < b.1)) (hg : GraphIs w fp p R) :
    Calls Try.prog 30 #[gV p, .int .u32 (v : Nat), .int .u32 (tv : Nat)] w (RetB (.bool (near15M R v tv)) w) := by
  have HF := Lib.hid (gfind_any p R v fp w hl hp hg)
  have hal : (arcs15M R v).length ≤ 100000 ∧ (arcs15M R v).Pairwise (fun a b => a.1 < b.1) := by
    rcases arcs15_mem (R := R) (v := v) with h | ⟨r, hr, _, h⟩
    · rw [h]; simp
    · rw [h]; exact ha r hr
  unfold near15M
  generalize arcs15M R v = l at *
  generalize gV p = pv at *
  have HC := Lib.hid (fun a c W h => afind_any l tv a c fp W hal.1 hal.2 h)
  clear hp hg ha hal
  go_enter Try.func30, Try.ntmps30
  go_wp2_with (first
    | (go_at_call 70; (with_reducible refine HF.out.mono ?_); rintro e w2 ⟨a, c, rfl, _, _, h3, h4⟩; have H3 := Lib.hid h3; have H4 := Lib.hid h4; clear h3 h4)
    | (go_at_call 44; (with_reducible refine (HC.out _ _ _ H3.out).mono ?_); rintro e w3 ⟨i, _, rfl, _, h5⟩; have H5 := Lib.hid h5; clear h5))
  go_ret
  exact ⟨rfl, H4.out.trans (H5.out.mono H4.out.size)⟩
end Go.Proofs.Ytlgnpogmgpgdaaa

namespace Go.Proofs.Ytlgnpogmgpgdaaa
set_option linter.unusedSimpArgs false
set_option linter.unusedVariables false
set_option maxRecDepth 100000
open Go.RowKit

def OwnRow (x0 : Nat) (l : List ArcD) (w : World) (e : Ending) (w' : World) : Prop :=
  ∃ a c g, e = .returned (.agg #[.int .u32 (x0 : Nat), .slice a l.length c]) ∧ OwnS arcRep (fun _ => False) w' a c g 42 l ∧ (∀ k, g = some k → w.heap.size ≤ k) ∧ Below w.heap.size w w'
set_option maxRecDepth 100000 in
set_option maxHeartbeats 1600000 in
theorem gown_any (x0 : Nat) (l : List ArcD) (ra : Option Addr) (rc : Nat) (fp : Nat → Prop) (w : World) (hl : l.length ≤ 1073741824) (hrd : RdS arcRep fp w ra l) :
    Calls Try.prog 74 #[.agg #[.int .u32 (x0 : Nat), .slice ra l.length rc]] w (OwnRow x0 l w) := by
  obtain ⟨W1, hW1⟩ : ∃ W1, (w.alloc (.cells #[.int .u32 (x0 : Nat), .slice ra l.length rc] 80)).alloc (.cells #[.int .u32 0, .slice none 0 0] 80) = W1 := ⟨_, rfl⟩
  have c0 : W1.cell? ⟨w.heap.size, 0, none⟩ = some (.int .u32 (x0 : Nat)) := by rw [← hW1]; simp [go_sem, ↓IntWalk.iteOmega]
  have c1 : W1.cell? ⟨w.heap.size, 1, none⟩ = some (.slice ra l.length rc) := by rw [← hW1]; simp [go_sem, ↓IntWalk.iteOmega]
  have r0 : W1.heap[w.heap.size + 1]? = some (.cells #[.int .u32 0, .slice none 0 0] 80 (0, 0)) := by rw [← hW1]; have := heap_alloc_new (w.alloc (.cells #[.int .u32 (x0 : Nat), .slice ra l.length rc] 80)) (.cells #[.int .u32 0, .slice none 0 0] 80); simpa using this
  have hs1 : W1.heap.size = w.heap.size + 2 := by rw [← hW1]; simp
  have B1 := Lib.hid (show Below w.heap.size w W1 by rw [← hW1]; exact (ext_alloc w _).alloc (by simp) _)
  have HC := Lib.hid (fun W (h : Below W1.heap.size W1 W) => arcclone_any l ra rc fp W hl ((hrd.ext B1.out).ext h))
  have R0 := Lib.hid r0
  have Hs1 := Lib.hid hs1
  clear hrd r0 hs1
  go_enter Try.func74, Try.ntmps74
  go_upto_region 1 with fail
  clear hW1
  refine wp_region_held (S := fun w' => w'.cell? ⟨w.heap.size, 0, none⟩ = some (.int .u32 (x0 : Nat)) ∧ w'.cell? ⟨w.heap.size, 1, none⟩ = some (.slice ra l.length rc)) (by kernel_rfl) ?_
  have hS0 : (fun w' : World => w'.cell? ⟨w.heap.size, 0, none⟩ = some (.int .u32 (x0 : Nat)) ∧ w'.cell? ⟨w.heap.size, 1, none⟩ = some (.slice ra l.length rc)) W1.drew := ⟨c0, c1⟩
  change wpAnyH _ _ _ _ _ _ _ _ (World.drew _)
  refine wpAnyH_take (i := 0) (oi := ⟨some 3, _, _, _, _, _⟩) (v := ?_) rfl (by kernel_rfl) (by kernel_rfl) (by kernel_rfl) (fun _ _ _ h => h) (Or.inl ⟨by rfl, ?_⟩) hS0 ?_
  rotate_left
  · (intro w' hSw; obtain ⟨s0, s1⟩ := hSw; go_simp; try (with_reducible rfl))
  simp only [Act.put, List.setIfInBounds_toArray, List.set_cons_zero, List.set_cons_succ]
  refine wpAnyH_take (i := 1) (oi := ⟨some 4, _, _, _, _, _⟩) (v := ?_) rfl (by kernel_rfl) (by kernel_rfl) (by kernel_rfl) (fun _ _ _ h => h) (Or.inl ⟨by rfl, ?_⟩) hS0 ?_
  rotate_left
  · (intro w' hSw; obtain ⟨s0, s1⟩ := hSw; go_simp; try (with_reducible rfl))
  simp only [Act.put, List.setIfInBounds_toArray, List.set_cons_zero, List.set_cons_succ]
  refine wpAnyH_take (i := 2) (oi := ⟨some 5, _, _, _, _, _⟩) (v := ?_) rfl (by kernel_rfl) (by kernel_rfl) (by kernel_rfl) (fun _ _ _ h => h) (Or.inl ⟨by rfl, ?_⟩) hS0 ?_
  rotate_left
  · (intro w' hSw; obtain ⟨s0, s1⟩ := hSw; go_simp; try (with_reducible rfl))
  simp only [Act.put, List.setIfInBounds_toArray, List.set_cons_zero, List.set_cons_succ]
  refine wpAnyH_take (i := 3) (oi := ⟨some 6, _, _, _, _, _⟩) (v := ?_) rfl (by kernel_rfl) (by kernel_rfl) (by kernel_rfl) (fun _ _ _ h => h) (Or.inl ⟨by rfl, ?_⟩) hS0 ?_
  rotate_left
  · (intro w' hSw; obtain ⟨s0, s1⟩ := hSw; go_simp; try (with_reducible rfl))
  simp only [Act.put, List.setIfInBounds_toArray, List.set_cons_zero, List.set_cons_succ]
  refine wpAnyH_all (rs := [4]) (by kernel_rfl) (by simp) ?_
  intro i hi
  rw [List.mem_singleton] at hi
  subst hi
  refine wpOp_runG (o := ⟨some 7, _, _, _, _, _⟩) rfl rfl fun K' hK => ?_
  go_simp
  refine (HC.out _ (ext_drew W1)).mono ?_
  rintro e w2 ⟨a, c, g, rfl, h1, h2, h3⟩
  have h4 := (ext_drew W1).trans h3
  have e0 := ((bcell h4).1 _ 0 (by have := Hs1.out; omega)).trans c0
  have e1 := ((bcell h4).1 _ 1 (by have := Hs1.out; omega)).trans c1
  have H1 := Lib.hid h1
  have H2 := Lib.hid h2
  have H4 := Lib.hid h4
  clear h1 h2 h3 h4 hS0
  have hS0 : (fun w' : World => w'.cell? ⟨w.heap.size, 0, none⟩ = some (.int .u32 (x0 : Nat)) ∧ w'.cell? ⟨w.heap.size, 1, none⟩ = some (.slice ra l.length rc)) w2 := ⟨e0, e1⟩
  refine hK _ _ ⟨hS0, ?_⟩
  clear hK K'
  try simp only [Act.put, List.setIfInBounds_toArray, List.set_cons_zero, List.set_cons_succ]
  refine wpAnyH_take (i := 5) (oi := ⟨some 8, _, _, _, _, _⟩) (v := ?_) rfl (by kernel_rfl) (by kernel_rfl) (by kernel_rfl) (fun _ _ _ h => h) (Or.inl ⟨by rfl, ?_⟩) hS0 ?_
  rotate_left
  · (intro w' hSw; obtain ⟨s0, s1⟩ := hSw; go_simp; try (with_reducible rfl))
  simp only [Act.put, List.setIfInBounds_toArray, List.set_cons_zero, List.set_cons_succ]
  refine wpAnyH_all (rs := [6]) (by kernel_rfl) (by simp) ?_
  intro i hi
  rw [List.mem_singleton] at hi
  subst hi
  refine wpOp_runG (o := ⟨none, _, _, _, _, _⟩) rfl rfl fun K' hK => ?_
  refine wp_store_rowG _ _ _ rfl (b := w.heap.size + 1) rfl rfl ((H4.out.block _ (by have := Hs1.out; omega)).trans R0.out) rfl (by kernel_rfl) (by simp [Value.oneCell']) ?_
  intro w3 h5 h6
  have f0 := (h6.cell (by have := H4.out.size; have := Hs1.out; omega) (by omega) 0).trans e0
  have f1 := (h6.cell (by have := H4.out.size; have := Hs1.out; omega) (by omega) 1).trans e1
  have H5 := Lib.hid h5
  have H6 := Lib.hid h6
  clear h5 h6 hS0
  refine hK _ _ ⟨⟨f0, f1⟩, ?_⟩
  clear hK K'
  try simp only [Act.put, List.setIfInBounds_toArray, List.set_cons_zero, List.set_cons_succ]
  refine wpAnyH_done (by kernel_rfl) ?_ _
  go_wp2_with fail
  refine bodyPost_ret (results_row_one rfl _ _ (w.heap.size + 1) 80 _ (0, 0) _ rfl H5.out Try.underlying80 rfl (by kernel_rfl)) rfl ⟨a, c, g, rfl, ?_, fun k hk => ?_, ?_⟩
  · refine H1.out.only H6.out (fun b hb _ e => ?_)
    rcases hb with hb | hb
    · exact hb
    · have := H2.out b hb
      have h9 := Hs1.out
      simp at this
      omega
  · have := H2.out k hk
    have h9 := Hs1.out
    simp at this
    omega
  · exact B1.out.trans ((H4.out.mono B1.out.size).trans (H6.out.below (Nat.le_trans B1.out.size H4.out.size) (fun k hk e => by omega)))

/-! ### the iterator -/
abbrev RowG := RowD × (Option Addr × Nat)
def encG (x : RowG) : Array Value := #[.agg #[.int .u32 (x.1.1 : Nat), .slice x.2.1 x.1.2.length x.2.2]]
/-- how a row is told: in memory of its own -/
def toldG (tp : Nat → Prop) (x : RowG) (W : World) : Prop := ∃ g, OwnS arcRep (fun _ => False) W x.2.1 x.2.2 g 42 x.1.2 ∧ (∀ k, tp k ↔ g = some k)
def growsRel (R : List RowD) (J : List RowG → (Nat → Prop) → World → Prop) (fp : Nat → Prop) (W : World) (i : Value) (wr : World) : Prop :=
  ∃ (pre : List RowG) (fp1 : Nat → Prop) (k : Nat), i = .int .i64 k ∧ k ≤ R.length ∧ pre.map (·.1) = R.take k ∧ J pre fp1 wr ∧ Only (fun k => fp k ∨ False) W wr ∧ (∀ k, fp1 k → (fp k ∨ W.heap.size ≤ k) ∧ k < wr.heap.size)

attribute [local go_sem] Oper.semAt_some

set_option maxRecDepth 100000 in
set_option maxHeartbeats 3200000 in
theorem grows_iter (b : Nat) (p : Option Nat) (R : List RowD) (rfp : Nat → Prop) (hl : R.length ≤ 100000) (ha : ∀ r ∈ R, r.2.length ≤ 100000) :
    IterT Try.prog 97 #[.pointer (some ⟨b, 0, none⟩)] encG (fun pre => pre.map (·.1) <+: R) (fun xs => xs.map (·.1) = R) (fun _ => True)
      (fun pre x tp W => toldG tp x W ∧ R[pre.length]? = some x.1)
      (fun W => W.cell? ⟨b, 0, none⟩ = some (gV p) ∧ GraphIs W rfp p R ∧ ∀ k, rfp k → k < W.heap.size) (fun k => k = b ∨ rfp k) (fun _ => False) := by
  rintro ly J Jx fp W ⟨hc, hg, hgl⟩ hfp hJ hJx _ hY h0
  have hb : b < W.heap.size := World.block_lt_of_cell? W _ hc
  have HJ := Lib.hid hJ
  have HJx := Lib.hid hJx
  have HY := Lib.hid hY
  have H0 : Hid (growsRel R J fp W (.int .i64 0) W) := ⟨[], fp, 0, rfl, by omega, by simp, h0, Only.refl _ _, fun k hk => ⟨.inl hk, (hfp k hk).1⟩⟩
  have Hfp := Lib.hid hfp
  have Hc := Lib.hid hc
  have Hg := Lib.hid hg
  have Hgl := Lib.hid hgl
  have HL := Lib.hid (glen_any p R rfp W hg)
  clear hJ hJx hY h0 hfp hc hg hgl
  refine callsIn_of_wp Try.func97 rfl trivial ?_
  simp only [Try.ntmps97, List.size_toArray, List.length_cons, List.length_nil, Nat.reduceAdd, Nat.reduceSub, Array.replicate_succ, Array.replicate_zero, List.push_toArray, List.append_toArray, List.nil_append, List.cons_append]
  have hc := Hc.out
  gi_wp2_with (gi_at_call 27; refine (callsIn_wide.2 HL.out).mono ?_; rintro e w2 ⟨rfl, hw2⟩; obtain rfl : W = w2 := hw2.symm; clear hw2)
  clear hc HL
  gi_loopw [6] (fun i wr => growsRel R J fp W i wr) (fun i _ => R.length - (intOf i).toNat)
  case atStart => exact H0.out
  case round =>
    obtain ⟨pre, fp1, k, rfl, hk, hpre, hj, hon, hfo⟩ := hrel
    have hpl : pre.length = k := by
      have := congrArg List.length hpre
      simpa [Nat.min_eq_left hk] using this
    have hno : ∀ j, (j = b ∨ rfp j) → ¬ (fp j ∨ False) := fun j hj h => h.elim (fun h => (Hfp.out j h).2 hj) id
    have hgr := Hg.out.only hon (fun j hj _ => hno j (.inr hj))
    have hcb := (hon.cell hb (hno b (.inl rfl)) 0).trans Hc.out
    have Hj := Lib.hid hj
    have Hon := Lib.hid hon
    have Hfo := Lib.hid hfo
    have Hpre := Lib.hid hpre
    have Hpl := Lib.hid hpl
    clear hj hon hfo hpre hpl hno
    by_cases hlt : k < R.length
    · cases p with
      | none =>
        have e : R = [] := Hg.out
        rw [e] at hlt
        exact absurd hlt (by simp)
      | some g =>
        obtain ⟨_, ra, rc, g1, g2, g3, hrd⟩ := hgr
        have hcb' : wr.cell? ⟨b, 0, none⟩ = some (.pointer (some ⟨g, 0, none⟩)) := hcb
        clear hcb
        have hcg : wr.cell? ⟨g, 0, none⟩ = some (.slice ra R.length rc) := cell_of_row wr g 0 _ _ (0, 0) g1
        obtain ⟨bb, off, qa, qc, rfl, hbb, hc0, hc1, hq1, hq2, hq3, hrr⟩ := hrd.row k hlt
        have hir : (k : Int) < (R.length : Int) := by omega
        have hgk : R[k]? = some R[k] := List.getElem?_eq_getElem hlt
        have htk : R.take (k + 1) = R.take k ++ [R[k]] := by rw [List.take_add_one, hgk]; rfl
        have har := ha R[k] (List.getElem_mem hlt)
        obtain ⟨r, hr⟩ : ∃ r, R[k] = r := ⟨_, rfl⟩
        rw [hr] at hc0 hc1 hrr hq2 hgk htk har
        obtain ⟨r0, rl⟩ := r
        simp only at hc0 hc1 hrr hq2 har
        have HO := Lib.hid (gown_any r0 rl qa qc _ wr (by omega) hrr)
        have Htk := Lib.hid htk
        have Hgk := Lib.hid hgk
        clear g1 g2 g3 hrd hrr hgk htk hr hq1 hq2 hq3 har
        gi_wp2_with (gi_at_call 74; refine (callsIn_wide.2 HO.out).mono ?_; rintro e w2 ⟨a, c, gg, rfl, h1, h2, h3⟩; obtain ⟨fn, tmps, assign, body, hy, hR⟩ := HY.out pre fp1 (fun k => gg = some k) ((r0, rl), (a, c)) w2 (J_ext HJ.out Hj.out (fun k hk => (Hfo.out k hk).2) h3) (fun k hk => Nat.lt_of_lt_of_le (Hfo.out k hk).2 h3.size) (fun k hk => ⟨Nat.le_trans Hon.out.size (h2 k hk), h1.lt k hk, fun hf => by have := (Hfo.out k hf).2; have := h2 k hk; omega⟩) (Hon.out.trans (Only.of_below (fp := fun _ => False) h3) (fun i _ h => h.elim)) (by rw [List.map_append, Hpre.out]; show R.take k ++ [(r0, rl)] <+: R; rw [← Htk.out]; exact List.take_prefix _ _) ⟨⟨gg, h1, fun k => Iff.rfl⟩, by rw [Hpl.out]; exact Hgk.out⟩; simp only [encG] at hy; have HR := Lib.hid hR; have H2 := Lib.hid h2; have H3 := Lib.hid h3; clear hR h1 h2 h3)
        refine HR.out.mono ?_
        clear hy HR
        rintro e W2 ⟨fp2, hfw2, hor⟩
        have hon2 : Only (fun k => fp k ∨ False) W W2 := (Hon.out.trans (Only.of_below (fp := fun _ => False) H3.out) (fun i _ h => h.elim)).trans hfw2.only (fun i hi h => ((Hfo.out i h).1.elim (fun h => .inl h) (fun h => by omega)))
        have hfo2 : ∀ k, fp2 k → (fp k ∨ W.heap.size ≤ k) ∧ k < W2.heap.size := fun k hk => by
          refine ⟨?_, (hfw2.own k hk).2⟩
          rcases (hfw2.own k hk).1 with h | h | h
          · exact (Hfo.out k h).1
          · exact .inr (Nat.le_trans Hon.out.size (H2.out k h))
          · exact .inr (Nat.le_trans (Nat.le_trans Hon.out.size H3.out.size) h)
        have Hon2 := Lib.hid hon2
        have Hfo2 := Lib.hid hfo2
        clear hfw2 hon2 hfo2
        rcases hor with ⟨rfl, hj2⟩ | ⟨rfl, hjx2⟩
        · have Hj2 := Lib.hid hj2
          clear hj2
          gi_wp2_with fail
          go_roundw
          case rel =>
            exact ⟨pre ++ [((r0, rl), (a, c))], fp2, k + 1, by go_num, by omega, by rw [List.map_append, Hpre.out, Htk.out]; rfl, Hj2.out, Hon2.out, Hfo2.out⟩
          case measure => simp [intOf]; omega
        · have Hjx2 := Lib.hid hjx2
          clear hjx2
          gi_wp2_with fail
          refine bodyPost_ret (results_none rfl _ _ _) rfl ?_
          exact IterEnd.mk (pre ++ [((r0, rl), (a, c))]) fp2 Hon2.out Hfo2.out (.inr ⟨by rw [List.map_append, Hpre.out]; show R.take k ++ [(r0, rl)] <+: R; rw [← Htk.out]; exact List.take_prefix _ _, Hjx2.out⟩)
    · obtain rfl : k = R.length := by omega
      clear hgr
      gi_wp2_with fail
      go_end0
      exact IterEnd.mk pre fp1 Hon.out Hfo.out (.inl ⟨by rw [Hpre.out, List.take_length], Hj.out⟩)

set_option maxHeartbeats 400000 in
theorem grows_any (v : Option Addr) (w : World) :
    Calls Try.prog 68 #[.pointer v] w fun e w' => e = .returned (.func (.func 97) #[] #[.pointer (some ⟨w.heap.size, 0, none⟩)]) ∧ w' = w.alloc (.cells #[.pointer v] 57) := by
  have hmf : ∀ (fn : Fn) (first cap : Array Value) (w : World), (Instr.makeFunc fn first cap).run Try.prog w = .ok (.func fn first cap) w := fun _ _ _ _ => rfl
  go_enter Try.func68, Try.ntmps68
  go_wp2
  go_ret
  exact ⟨rfl, rfl⟩
end Go.Proofs.Ytlgnpogmgpgdaaa

namespace Go.Proofs.Ytlgnpogmgpgdaaa
set_option linter.unusedSimpArgs false
set_option linter.unusedVariables false
set_option maxRecDepth 100000
open Go.RowKit

/-- arcs' blocks that nobody has frozen -/
def softArcs (W : World) (k : Nat) : Prop := ∃ cur, W.heap[k]? = some (.cells cur 42 (0, 0))
def RowsOwn (R : List RowD) (w : World) (e : Ending) (w' : World) : Prop :=
  ∃ a c g fe, e = .returned (.slice a R.length c) ∧ OwnS rowRep fe w' a c g 80 R ∧ (∀ k, fe k → w.heap.size ≤ k ∧ g ≠ some k ∧ softArcs w' k) ∧ (∀ k, g = some k → w.heap.size ≤ k) ∧ Below w.heap.size w w'
def lrI (s : Nat) (pre : List RowG) (fq : Nat → Prop) (W : World) : Prop :=
  ∃ (ao : Option Addr) (cap : Nat) (g : Option Nat) (fe : Nat → Prop), W.cell? ⟨s + 1, 0, none⟩ = some (.slice ao (pre.map (·.1)).length cap) ∧ W.frozen? ⟨s + 1, 0, none⟩ = false ∧ OwnS rowRep fe W ao cap g 80 (pre.map (·.1)) ∧
    (∀ k, fe k → fq k ∧ s + 3 ≤ k ∧ g ≠ some k ∧ softArcs W k) ∧ (∀ k, g = some k → fq k ∧ s ≤ k ∧ k ≠ s + 1) ∧ fq (s + 1)
theorem OwnS.soft {fp : Nat → Prop} {W : World} {a : Option Addr} {c : Nat} {g : Option Nat} {l : List ArcD} (h : OwnS arcRep fp W a c g 42 l) : ∀ k, g = some k → softArcs W k := by
  intro k hk
  obtain ⟨css, ⟨_, h1⟩, _⟩ := h
  rcases h1 with ⟨_, _, _, h2⟩ | ⟨b, cur, h2, _, h3, _⟩
  · rw [h2] at hk; cases hk
  · rw [h2] at hk; cases hk; exact ⟨cur, h3⟩

attribute [local go_sem] Oper.semAt_some

set_option maxRecDepth 100000 in
set_option maxHeartbeats 3200000 in
theorem lrows_any (p : Option Nat) (R : List RowD) (rfp : Nat → Prop) (w : World) (hl : R.length ≤ 100000) (hok : ∀ r ∈ R, r.1 < 4294967296 ∧ r.2.length ≤ 100000) (hg : GraphIs w rfp p R) (hrl : ∀ k, rfp k → k < w.heap.size) :
    Calls Try.prog 26 #[gV p] w (RowsOwn R w) := by
  have hE := rowElem
  have hq : ∀ (fn : Fn) (a b : Array Value) (w : World), (binOp .eql 121 (.func fn a b) .nilFunc).run Try.prog w = .ok (.bool false) w := fun _ _ _ _ => by kernel_rfl
  have hit := fun b => grows_iter b p R rfp hl (fun r hr => (hok r hr).2)
  have Hg := Lib.hid hg
  have Hok := Lib.hid hok
  clear hg hok
  refine (callsIn_wide (n := 0)).1 (callsIn_of_wp_marks Try.func26 rfl trivial ?_)
  simp only [Try.ntmps26, List.size_toArray, List.length_cons, List.length_nil, Nat.reduceAdd, Nat.reduceSub, Array.replicate_succ, Array.replicate_zero, List.push_toArray, List.append_toArray, List.nil_append, List.cons_append]
  gi_wp2_with (gi_at_call 68; refine (callsIn_wide.2 (grows_any _ _)).mono ?_; rintro e w2 ⟨rfl, rfl⟩)
  obtain ⟨w1, hw1⟩ : ∃ w1, (((w.alloc (Obj.cells #[] 80)).alloc (Obj.cells #[Value.slice (some ⟨w.heap.size, 0, none⟩) 0 0] 47)).alloc (Obj.cells #[.pointer (p.map fun g => ⟨g, 0, none⟩)] 57)) = w1 := ⟨_, rfl⟩
  have hs1 : w1.heap.size = w.heap.size + 3 := by rw [← hw1]; simp
  have hB1 : Below w.heap.size w w1 := by rw [← hw1]; exact ((ext_alloc w _).alloc (by simp) _).alloc (by simp; omega) _
  have c2 : w1.cell? ⟨w.heap.size + 1 + 1, 0, none⟩ = some (gV p) := by rw [← hw1]; unfold gV; simp [go_sem, ↓IntWalk.iteOmega]
  have hI0 : lrI w.heap.size [] (fun k => k = w.heap.size ∨ k = w.heap.size + 1) w1 := by
    refine ⟨some ⟨w.heap.size, 0, none⟩, 0, some w.heap.size, fun _ => False, by rw [← hw1]; simp [go_sem, ↓IntWalk.iteOmega], by rw [← hw1]; simp only [go_sem]; simp, ?_, fun k h => h.elim, (fun k h => by cases h; exact ⟨.inl rfl, Nat.le_refl _, by omega⟩), .inr rfl⟩
    rw [← hw1]
    exact ⟨[], ((Own.emptyAt w 80 2 w.heap.size rfl).alloc _).alloc _, .nil⟩
  rw [hw1]
  have HB1 := Lib.hid hB1
  have HI0 := Lib.hid hI0
  have hs1' : w.heap.size + 3 ≤ w1.heap.size := by omega
  clear hw1 hs1 hB1 hI0
  refine wpIn_rangeTB (gf := 97) (lb := #[.pointer (some ⟨w.heap.size + 1 + 1, 0, none⟩)]) rfl (enters_of Try.func97 (by kernel_rfl) rfl) (hit _) (fun _ => rfl)
    (fun k => k = w.heap.size ∨ k = w.heap.size + 1) ?hfp ?hrs (fun k h => h.elim)
    (fun pre fq W => lrI w.heap.size pre fq W) (fun c pre fq W => False) ?hI (fun _ _ _ _ _ h _ => h) (fun _ _ _ _ => trivial) ?hPre HI0.out
    [(13, fun x : RowG => .agg #[.int .u32 (x.1.1 : Nat), .slice x.2.1 x.1.2.length x.2.2])] 5 80 (fun x => #[.int .u32 (x.1.1 : Nat), .slice x.2.1 x.1.2.length x.2.2]) ?assign ?body ?done ?stop
  case hfp =>
    intro k hk
    refine ⟨by omega, fun h => ?_⟩
    rcases h with h | h
    · omega
    · have := hrl k h; omega
  case hrs =>
    rintro k (h | h)
    · omega
    · have := hrl k h; omega
  case hI =>
    rintro pre fq A B ⟨ao', cap', g, fe, h1, h2, h3, h4, h5, h6⟩ hs
    exact ⟨ao', cap', g, fe, (hs.cell h6 0).trans h1, (hs.frozen h6 0).trans h2, h3.stays hs (fun b hb _ => hb.elim (fun h => (h4 b h).1) (fun h => (h5 b h).1)), fun k hk => ⟨(h4 k hk).1, (h4 k hk).2.1, (h4 k hk).2.2.1, by
      obtain ⟨cur, hc⟩ := (h4 k hk).2.2.2
      exact ⟨cur, (hs.same k (h4 k hk).1).trans hc⟩⟩, h5, h6⟩
  case hPre =>
    intro W hb
    have hsz := hb.size
    exact ⟨((bcell hb).1 _ 0 (by omega)).trans c2, (Hg.out.ext HB1.out).ext hb, fun k h => by have := hrl k h; omega⟩
  case assign =>
    intro l x W K hK
    rw [show encG x = #[.agg #[.int .u32 (x.1.1 : Nat), .slice x.2.1 x.1.2.length x.2.2]] from rfl]
    gi_wp2
    exact hK
  case body =>
    rintro l0 pre fq tp x W Wy q hq hl0 hr0 honly hokk ⟨⟨gx, hxo, hxt⟩, hxr⟩ ho0 hnl hflt htp ⟨ao', cap', g, fe, h1, h2, h3, h4, h5, h6⟩ hsz
    simp only [List.foldl_cons, List.foldl_nil, List.setIfInBounds_toArray, List.set_cons_zero, List.set_cons_succ]
    obtain ⟨⟨r0, rl⟩, ax, cx⟩ := x
    simp only at hxo hxr hq
    have hpl : pre.length < R.length := (List.getElem?_eq_some_iff.1 hxr).1
    have hr0' : r0 < 4294967296 := (Hok.out (r0, rl) (List.mem_of_getElem? hxr)).1
    have hqb := cell_of_row W q 0 _ _ _ hq
    have hqb1 := cell_of_row W q 1 _ _ _ hq
    simp only [List.getElem?_toArray, List.getElem?_cons_zero, List.getElem?_cons_succ] at hqb hqb1
    dsimp only
    have hxl : ∀ b, gx = some b → w.heap.size + 3 ≤ b ∧ b < Wy.heap.size ∧ ¬ fq b ∧ b ≠ l0 := fun b hb => by
      obtain ⟨e1, e2, e3, e4⟩ := htp b ((hxt b).2 hb)
      exact ⟨by omega, e2, e3, e4⟩
    have hor := hxo.only ho0 (fun b hb _ e => by rcases hb with hb | hb; exact hb; exact (hxl b hb).2.2.2 e)
    have Hor := Lib.hid hor
    have Hsy := Lib.hid ho0.size
    have Hxl := Lib.hid hxl
    have Hxt := Lib.hid hxt
    obtain ⟨css, hown0, hall⟩ := h3
    have Hall := Lib.hid hall
    have hown : Own W ao' cap' g 80 2 pre.length css.flatten := by rw [List.length_map] at hown0; exact hown0
    rw [List.length_map] at h1
    have hgO : g ≠ some (w.heap.size + 1) := fun e => (h5 _ e).2.2 rfl
    have HgO := Lib.hid hgO
    have Hown := Lib.hid hown
    have H4 := Lib.hid h4
    have H5 := Lib.hid h5
    have Hflt := Lib.hid hflt
    have Hcl := Lib.hid hor.capLe
    clear hor hokk h4 h5 hflt htp hr0 hl0 hnl ho0 honly hxo hxr hxt hxl hit hown hown0 hall hgO hq
    gi_wp2_with (gi_at_builtin; refine wpListIn_app rfl (.tmp 14) (.tmp 16) 47 47 rfl hE (Hown.out.alloc _) rfl rfl (srcMany Try.underlying47 _ _ _ _ 2 rfl (by simp [Value.oneCell'])) (by simp [maxLen]; omega) (by omega) ?_; intro ao3 cap3 g3 W3 ho3 hg3 hon3; have hon4 : Only (fun k => g = some k) W W3 := ((Only.refl (fun k => g = some k) W).alloc _).trans hon3 (fun _ _ h => h); have e1 := (hon4.cell (Hflt.out _ h6) HgO.out 0).trans h1; have e2 := (hon4.frozen (Hflt.out _ h6) HgO.out 0).trans h2; have Ho3 := Lib.hid ho3; have Hg3 := Lib.hid hg3; have Hon4 := Lib.hid hon4; clear ho3 hg3 hon3 hon4)
    have hsz3 : W.heap.size ≤ W3.heap.size := Hon4.out.size
    have hg3' : ∀ k, g3 = some k → g = some k ∨ W.heap.size ≤ k := fun k h => by
      rcases Hg3.out with rfl | rfl
      · exact .inl h
      · cases h; right; simp
    have q1' := Hflt.out _ h6
    have hO : Only fq W (W3.setCell ⟨w.heap.size + 1, 0, none⟩ (.slice ao3 (pre.length + 1) cap3)) := (Hon4.out.mono (fun k _ hk => (H5.out k hk).1)).setCell (fun _ => h6) _
    have hfe : ∀ b, (fe b ∨ gx = some b) → b < W.heap.size ∧ g ≠ some b ∧ w.heap.size + 3 ≤ b ∧ softArcs W b := fun b hb => by
      rcases hb with h | h
      · exact ⟨Hflt.out b (H4.out b h).1, (H4.out b h).2.2.1, (H4.out b h).2.1, (H4.out b h).2.2.2⟩
      · exact ⟨by have := (Hxl.out b h).2.1; have := Hsy.out; omega, fun e => (Hxl.out b h).2.2.1 (H5.out b e).1, (Hxl.out b h).1, Hor.out.soft b h⟩
    have hS : OwnS rowRep (fun k => fe k ∨ gx = some k) W3 ao3 cap3 g3 80 (pre.map (·.1) ++ [(r0, rl)]) := by
      refine OwnS.snoc (w := W) (forall2_imp (fun x cs h => rowRep.mono h (fun b hb _ => .inl hb)) Hall.out) (cs := [.int .u32 (r0 : Nat), .slice ax rl.length cx]) (rowRep_ok (p := (r0, rl)) Hcl.out.1 Hcl.out.2 hr0' ?_) (by rw [List.length_map]; exact Ho3.out) (fun b hb hl => Hon4.out.same b hl (hfe b hb).2.1) hsz3
      exact (Hor.out.rd.only Hon4.out (fun b hb hl => (hfe b (.inr (hb.elim (fun h => h.elim) id))).2.1)).mono (fun b hb _ => .inr (hb.elim (fun h => h.elim) id))
    refine ⟨fun k => k = w.heap.size + 1 ∨ fe k ∨ gx = some k ∨ g3 = some k, ⟨hO, fun k hk => ?_⟩, ao3, cap3, g3, fun k => fe k ∨ gx = some k, ?_, ?_, ?_, fun k hk => ⟨by
      rcases hk with h | h
      · exact .inr (.inl h)
      · exact .inr (.inr (.inl h)), (hfe k hk).2.2.1, fun e => (hg3' k e).elim (hfe k hk).2.1 (fun h => by have := (hfe k hk).1; omega), ?_⟩, fun k hk => ⟨.inr (.inr (.inr hk)), (hg3' k hk).elim (fun h => ⟨(H5.out k h).2.1, (H5.out k h).2.2⟩) (fun h => ⟨by omega, by omega⟩)⟩, .inl rfl⟩
    · rw [World.size_setCell]
      rcases hk with rfl | h | h | h
      · exact ⟨.inl h6, by omega⟩
      · exact ⟨.inl (H4.out k h).1, by have := (hfe k (.inl h)).1; omega⟩
      · exact ⟨.inr (.inl ((Hxt.out k).2 h)), by have := (hfe k (.inr h)).1; omega⟩
      · exact ⟨(hg3' k h).elim (fun h => .inl (H5.out k h).1) (fun h => .inr (.inr h)), Ho3.out.lt k h⟩
    · simp [cell_set_ite, e1]
    · rw [World.frozen?_setCell]; exact e2
    · rw [List.map_append]
      refine hS.keep (fun b hb hl => Below.heap_setCell _ _ _ _ (fun e => ?_)) (by simp)
      simp only at e
      rcases hb with h | h
      · have := (hfe b h).2.2.1; omega
      · rcases hg3' b h with h | h
        · exact HgO.out (by rw [h, e])
        · omega
    · obtain ⟨cur, hcur⟩ := (hfe k hk).2.2.2
      refine ⟨cur, ?_⟩
      rw [Below.heap_setCell _ _ _ _ (by have := (hfe k hk).2.2.1; simp; omega), Hon4.out.same k (hfe k hk).1 (hfe k hk).2.1]
      exact hcur
  case done =>
    rintro D xs fq W hD hxs ⟨ao', cap', g, fe, h1, h2, h3, h4, h5, h6⟩ honly hfo hlt hnD hk
    rw [hxs] at h1 h3
    have hbW : Below w.heap.size w W := HB1.out.trans (honly.below (by omega) (by rintro k hk (h | h) <;> first | omega | exact h))
    have hcl := h3.capLe
    have hD1 : w.heap.size + 1 ≠ D := by omega
    have Hbw := Lib.hid hbW
    have H3 := Lib.hid h3
    have H4 := Lib.hid h4
    have H5 := Lib.hid h5
    have Hnd := Lib.hid hnD
    have Hk := Lib.hid hk
    clear hbW h3 h4 h5 hnD hk hxs honly hfo hlt hit
    dsimp only
    gi_wp2_with fail
    refine leaveM1 (v := .slice ao' R.length cap') Hk.out ?_ ?_
    · simp [results, Try.results26, go_sem]
    · refine ⟨ao', cap', g, fe, rfl, H3.out.keep (fun b hb hl => World.putObj_heap_other (fun e => ?_)) (by simp), fun k hk => ⟨?_, (H4.out k hk).2.2.1, ?_⟩, fun k hk => (H5.out k hk).2.1, ext_put Hbw.out (by omega)⟩
      · subst e
        rcases hb with h | h
        · exact Hnd.out (H4.out _ h).1
        · exact Hnd.out (H5.out _ h).1
      · have := (H4.out k hk).2.1; omega
      · obtain ⟨cur, hcur⟩ := (H4.out k hk).2.2.2
        have hkD : k ≠ D := fun e => Hnd.out (e ▸ (H4.out k hk).1)
        exact ⟨cur, (World.putObj_heap_other hkD).trans hcur⟩
  case stop =>
    rintro D c xs fq W hD hokk h honly hfo hlt hnD hk
    exact h.elim
end Go.Proofs.Ytlgnpogmgpgdaaa

namespace Go.Proofs.Ytlgnpogmgpgdaaa
set_option linter.unusedSimpArgs false
set_option linter.unusedVariables false
set_option maxRecDepth 100000
open Go.RowKit

def EdgesOwn (E : List EdgeD) (w : World) (e : Ending) (w' : World) : Prop :=
  ∃ a c g, e = .returned (.slice a E.length c) ∧ OwnS edgeRep (fun _ => False) w' a c g 56 E ∧ (∀ k, g = some k → w.heap.size ≤ k) ∧ Below w.heap.size w w'
theorem edgesElem : Elem Try.prog 46 56 3 12 (.agg #[.int .u32 0, .int .u32 0, .int .u32 0]) := Elem.mk' Try.underlying46 (by kernel_rfl) rfl (by decide)
theorem edgeRep_ok' {W : World} {fp : Nat → Prop} {x : EdgeD} (h : okE x) : edgeRep.ok W fp x [.int .u32 (x.1 : Nat), .int .u32 (x.2.1 : Nat), .int .u32 (x.2.2 : Nat)] := ⟨[_], [_, _], rfl, ⟨rfl, h.1⟩, [_], [_], rfl, ⟨rfl, h.2.1⟩, ⟨rfl, h.2.2⟩⟩
def geI (s : Nat) (pre : List RowG) (fq : Nat → Prop) (W : World) : Prop :=
  ∃ (ao : Option Addr) (cap : Nat) (g : Option Nat), W.cell? ⟨s, 0, none⟩ = some (.slice ao (edgesM (pre.map (·.1))).length cap) ∧ W.frozen? ⟨s, 0, none⟩ = false ∧ OwnS edgeRep (fun _ => False) W ao cap g 56 (edgesM (pre.map (·.1))) ∧
    (∀ k, g = some k → fq k ∧ s < k) ∧ fq s
/-- within a row -/
def geJ (s : Nat) (E0 : List EdgeD) (r0 : Nat) (rl : List ArcD) (g0 : Option Nat) (W : World) (v : Value) (wr : World) : Prop :=
  ∃ (k : Nat) (ao : Option Addr) (cap : Nat) (g : Option Nat), v = .int .i64 (k : Nat) ∧ k ≤ rl.length ∧ wr.cell? ⟨s, 0, none⟩ = some (.slice ao (E0.length + k) cap) ∧ wr.frozen? ⟨s, 0, none⟩ = false ∧
    OwnS edgeRep (fun _ => False) wr ao cap g 56 (E0 ++ (rl.take k).map (fun a => (r0, a.1, a.2))) ∧ (∀ k, g = some k → g0 = some k ∨ W.heap.size ≤ k) ∧ Only (fun k => k = s ∨ g0 = some k) W wr
theorem edges_prefix {A B : List RowD} (h : A <+: B) : (edgesM A).length ≤ (edgesM B).length := by
  obtain ⟨C, rfl⟩ := h
  rw [edgesM_append, List.length_append]; omega
theorem Own.notCells {w : World} {ao : Option Addr} {cap : Nat} {g : Option Nat} {e : TypeId} {size n q : Nat} {xs : List Value} {cs : Array Value} {t : TypeId} {fr : Nat × Nat} (h : Own w ao cap g e size n xs) (hq : w.heap[q]? = some (.cells cs t fr)) (hne : t ≠ e) : g ≠ some q := by
  intro hg
  rcases h.2 with ⟨_, _, _, h2⟩ | ⟨b, cur, h2, _, h3, _⟩
  · rw [h2] at hg; cases hg
  · rw [h2] at hg; cases hg
    rw [h3] at hq; cases hq; exact hne rfl

attribute [local go_sem] Oper.semAt_some

set_option maxRecDepth 100000 in
set_option maxHeartbeats 3200000 in
theorem gedges_any (p : Option Nat) (R : List RowD) (rfp : Nat → Prop) (w : World) (hl : R.length ≤ 100000) (hok : ∀ r ∈ R, r.1 < 4294967296 ∧ r.2.length ≤ 100000 ∧ ∀ a ∈ r.2, okA a) (hEl : (edgesM R).length ≤ 1000000) (hg : GraphIs w rfp p R) (hrl : ∀ k, rfp k → k < w.heap.size) :
    Calls Try.prog 33 #[gV p] w (EdgesOwn (edgesM R) w) := by
  have hE := edgesElem
  have hit := fun b => grows_iter b p R rfp hl (fun r hr => (hok r hr).2.1)
  have Hg := Lib.hid hg
  have Hok := Lib.hid hok
  clear hg hok
  refine (callsIn_wide (n := 0)).1 (callsIn_of_wp_marks Try.func33 rfl trivial ?_)
  simp only [Try.ntmps33, List.size_toArray, List.length_cons, List.length_nil, Nat.reduceAdd, Nat.reduceSub, Array.replicate_succ, Array.replicate_zero, List.push_toArray, List.append_toArray, List.nil_append, List.cons_append]
  gi_wp2_with (gi_at_call 68; refine (callsIn_wide.2 (grows_any _ _)).mono ?_; rintro e w2 ⟨rfl, rfl⟩)
  obtain ⟨w1, hw1⟩ : ∃ w1, ((w.alloc (Obj.cells #[Value.slice none 0 0] 46)).alloc (Obj.cells #[.pointer (p.map fun g => ⟨g, 0, none⟩)] 57)) = w1 := ⟨_, rfl⟩
  have hs1 : w1.heap.size = w.heap.size + 2 := by rw [← hw1]; simp
  have hB1 : Below w.heap.size w w1 := by rw [← hw1]; exact (ext_alloc w _).alloc (by simp) _
  have c2 : w1.cell? ⟨w.heap.size + 1, 0, none⟩ = some (gV p) := by rw [← hw1]; unfold gV; simp [go_sem, ↓IntWalk.iteOmega]
  have hI0 : geI w.heap.size [] (fun k => k = w.heap.size) w1 := by
    rw [← hw1]
    exact ⟨none, 0, none, by simp [go_sem, ↓IntWalk.iteOmega]; rfl, by simp only [go_sem]; simp, OwnS.nil _ _ _ _, (fun k h => by cases h), rfl⟩
  rw [hw1]
  have HB1 := Lib.hid hB1
  have HI0 := Lib.hid hI0
  have hs1' : w.heap.size + 2 ≤ w1.heap.size := by omega
  clear hw1 hs1 hB1 hI0
  refine wpIn_rangeTB (gf := 97) (lb := #[.pointer (some ⟨w.heap.size + 1, 0, none⟩)]) rfl (enters_of Try.func97 (by kernel_rfl) rfl) (hit _) (fun _ => rfl)
    (fun k => k = w.heap.size) ?hfp ?hrs (fun k h => h.elim)
    (fun pre fq W => geI w.heap.size pre fq W) (fun c pre fq W => False) ?hI (fun _ _ _ _ _ h _ => h) (fun _ _ _ _ => trivial) ?hPre HI0.out
    [(9, fun x : RowG => .agg #[.int .u32 (x.1.1 : Nat), .slice x.2.1 x.1.2.length x.2.2])] 4 80 (fun x => #[.int .u32 (x.1.1 : Nat), .slice x.2.1 x.1.2.length x.2.2]) ?assign ?body ?done ?stop
  case hfp =>
    intro k hk
    refine ⟨by omega, fun h => ?_⟩
    rcases h with h | h
    · omega
    · have := hrl k h; omega
  case hrs =>
    rintro k (h | h)
    · omega
    · have := hrl k h; omega
  case hI =>
    rintro pre fq A B ⟨ao', cap', g, h1, h2, h3, h5, h6⟩ hs
    exact ⟨ao', cap', g, (hs.cell h6 0).trans h1, (hs.frozen h6 0).trans h2, h3.stays hs (fun b hb _ => hb.elim (fun h => h.elim) (fun h => (h5 b h).1)), h5, h6⟩
  case hPre =>
    intro W hb
    have hsz := hb.size
    exact ⟨((bcell hb).1 _ 0 (by omega)).trans c2, (Hg.out.ext HB1.out).ext hb, fun k h => by have := hrl k h; omega⟩
  case assign =>
    intro l x W K hK
    rw [show encG x = #[.agg #[.int .u32 (x.1.1 : Nat), .slice x.2.1 x.1.2.length x.2.2]] from rfl]
    gi_wp2
    exact hK
  case body =>
    rintro l0 pre fq tp x W Wy q hq hl0 hr0 honly hokk ⟨⟨gx, hxo, hxt⟩, hxr⟩ ho0 hnl hflt htp ⟨ao', cap', g, h1, h2, h3, h5, h6⟩ hsz
    simp only [List.foldl_cons, List.foldl_nil, List.setIfInBounds_toArray, List.set_cons_zero, List.set_cons_succ]
    obtain ⟨⟨r0, rl⟩, ax, cx⟩ := x
    simp only at hxo hxr hq
    have hrok := Hok.out (r0, rl) (List.mem_of_getElem? hxr)
    simp only at hrok
    have hqb := cell_of_row W q 0 _ _ _ hq
    have hqb1 := cell_of_row W q 1 _ _ _ hq
    simp only [List.getElem?_toArray, List.getElem?_cons_zero, List.getElem?_cons_succ] at hqb hqb1
    have hpre : (edgesM (pre.map (·.1))).length + rl.length ≤ 1000000 := by
      have h9 := edges_prefix hokk
      rw [List.map_append, edgesM_append, List.length_append] at h9
      simp [edgesM] at h9 hEl ⊢
      omega
    have hxl : ∀ b, gx = some b → b < Wy.heap.size ∧ ¬ fq b ∧ b ≠ l0 := fun b hb => by
      obtain ⟨e1, e2, e3, e4⟩ := htp b ((hxt b).2 hb)
      exact ⟨e2, e3, e4⟩
    have hor := hxo.only ho0 (fun b hb _ e => by rcases hb with hb | hb; exact hb; exact (hxl b hb).2.2 e)
    have hrda : RdS arcRep (fun b => gx = some b) W ax rl := hor.rd.mono (fun b hb _ => hb.elim (fun h => h.elim) id)
    have hqs : q ≠ w.heap.size := fun e => by rw [e] at hqb; rw [hqb] at h1; cases h1
    have hqg : g ≠ some q := by obtain ⟨css, ho, _⟩ := h3; exact ho.notCells hq (by decide)
    have hqW : q < W.heap.size := (Array.getElem?_eq_some_iff.1 hq).1
    have hE9 : ∀ K : List EdgeD, edgesM ((pre ++ [((r0, rl), (ax, cx))]).map (·.1)) = edgesM (pre.map (·.1)) ++ rl.map (fun a => (r0, a.1, a.2)) := fun _ => by rw [List.map_append, edgesM_append]; simp [edgesM]
    have HE9 := Lib.hid (hE9 [])
    have Hxl := Lib.hid hxl
    have Hrda := Lib.hid hrda
    have H0 : Hid (geJ w.heap.size (edgesM (pre.map (·.1))) r0 rl g W (.int .i64 0) W) := ⟨0, ao', cap', g, rfl, Nat.zero_le _, by simpa using h1, h2, by simpa using h3, fun k hk => .inl hk, Only.refl _ _⟩
    have hgs : g ≠ some w.heap.size := fun e => by have := (h5 _ e).2; omega
    have hxf : ∀ b, gx = some b → b ≠ w.heap.size ∧ g ≠ some b := fun b hb => ⟨fun e => (hxl b hb).2.1 (e ▸ h6), fun e => (hxl b hb).2.1 (h5 b e).1⟩
    have hsW : w.heap.size < W.heap.size := hflt _ h6
    have Hflt := Lib.hid hflt
    have H5 := Lib.hid h5
    have Hxf := Lib.hid hxf
    have Hxt := Lib.hid hxt
    have Hrok := Lib.hid hrok
    have Hgs := Lib.hid hgs
    clear hit hxo hxl hor hrda hE9 hokk hxr hxt htp hflt h3 h5 hrok hr0 honly ho0 hnl hl0 hq hgs hxf HI0
    generalize edgesM (pre.map (·.1)) = E0 at *
    dsimp only
    gi_wp2_with fail
    clear hqb1 h1 h2
    gi_loopw [13] (fun v wr => geJ w.heap.size E0 r0 rl g W v wr) (fun v _ => rl.length - (intOf v).toNat)
    case atStart => exact H0.out
    case round =>
      obtain ⟨k, ao1, cap1, g1, rfl, hk, j1, j2, j3, j4, j5⟩ := hrel
      rename World => wo
      have hs5 := j5.size
      have hqb' := (j5.cell hqW (fun e => e.elim (fun e => hqs e) (fun e => hqg e)) 0).trans hqb
      by_cases hlt : k < rl.length
      · obtain ⟨bb, off, rfl, hbb, hc0, hc1, hoka⟩ := (Hrda.out.only j5 (fun b hb _ e => e.elim (fun e => (Hxf.out b hb).1 e) (fun e => (Hxf.out b hb).2 e))).arc k hlt
        have hir : (k : Int) < (rl.length : Int) := by omega
        have htk : rl.take (k + 1) = rl.take k ++ [rl[k]] := List.take_succ_eq_append_getElem hlt
        generalize rl[k] = x at hc0 hc1 hoka htk
        obtain ⟨x0, x1⟩ := x
        simp only at hc0 hc1
        have hln : (E0 ++ (rl.take k).map (fun a => (r0, a.1, a.2))).length = E0.length + k := by rw [List.length_append, List.length_map, List.length_take, Nat.min_eq_left hk]
        obtain ⟨css, hown0, hall⟩ := j3
        rw [hln] at hown0
        have hown : Own wo ao1 cap1 g1 56 3 (E0.length + k) css.flatten := hown0
        have hg1s : g1 ≠ some w.heap.size := fun e => (j4 _ e).elim (fun h => Hgs.out h) (fun h => by omega)
        have Hg1s := Lib.hid hg1s
        have Hown := Lib.hid hown
        have Hall := Lib.hid hall
        have Htk := Lib.hid htk
        have Hln := Lib.hid hln
        have J4 := Lib.hid j4
        have J5 := Lib.hid j5
        have Hoka := Lib.hid hoka
        obtain ⟨w2, hw2⟩ : ∃ w2, wo.alloc (.cells #[.int .u32 (x0 : Nat), .int .u32 (x1 : Nat)] 42) = w2 := ⟨_, rfl⟩
        have E2 := Lib.hid (show Below wo.heap.size wo w2 by rw [← hw2]; exact ext_alloc _ _)
        have d0 : w2.cell? ⟨wo.heap.size, 0, none⟩ = some (.int .u32 (x0 : Nat)) := by rw [← hw2]; simp
        have d1 : w2.cell? ⟨wo.heap.size, 1, none⟩ = some (.int .u32 (x1 : Nat)) := by rw [← hw2]; simp
        have hsw : w.heap.size < wo.heap.size := by omega
        have q2 := ((bcell E2.out).1 q 0 (by omega)).trans hqb'
        have s2 := ((bcell E2.out).1 w.heap.size 0 hsw).trans j1
        have f2 := ((bcell E2.out).2 w.heap.size 0 hsw).trans j2
        clear hown0 hown hall htk hln j4 j5 hoka hg1s
        gi_wp2_with (gi_at_builtin; refine wpListIn_app rfl (.tmp 17) (.tmp 25) 46 46 rfl hE ((Hown.out.ext E2.out).alloc _) rfl rfl (srcMany Try.underlying46 _ _ _ _ 3 rfl (by simp [Value.oneCell'])) (by simp [maxLen]; omega) (by omega) ?_; intro ao3 cap3 g3 W3 ho3 hg3 hon3; have hon4 : Only (fun k => g1 = some k) w2 W3 := ((Only.refl (fun k => g1 = some k) w2).alloc _).trans hon3 (fun _ _ h => h); have hsw2 := E2.out.size; have e1 := (hon4.cell (by omega) Hg1s.out 0).trans s2; have e2 := (hon4.frozen (by omega) Hg1s.out 0).trans f2; have Ho3 := Lib.hid ho3; have Hg3 := Lib.hid hg3; have Hon4 := Lib.hid hon4; clear ho3 hg3 hon3 hon4)
        have hsz3 : w2.heap.size ≤ W3.heap.size := Hon4.out.size
        have hsw2 := E2.out.size
        have hg3' : ∀ k, g3 = some k → g1 = some k ∨ w2.heap.size ≤ k := fun k h => by
          rcases Hg3.out with rfl | rfl
          · exact .inl h
          · cases h; right; simp
        have hOn : Only (fun k => g1 = some k) wo W3 := (Only.of_below (fp := fun k => g1 = some k) E2.out).trans Hon4.out (fun _ _ h => h)
        go_roundw
        case rel =>
          refine ⟨k + 1, ao3, cap3, g3, by go_num, by omega, by simp [cell_set_ite, e1, Nat.add_assoc], by rw [World.frozen?_setCell]; exact e2, ?_, fun b hb => ?_, ?_⟩
          · have hS : OwnS edgeRep (fun _ => False) W3 ao3 cap3 g3 56 ((E0 ++ (rl.take k).map (fun a => (r0, a.1, a.2))) ++ [(r0, x0, x1)]) := by
              refine OwnS.snoc (w := wo) Hall.out (cs := [.int .u32 (r0 : Nat), .int .u32 (x0 : Nat), .int .u32 (x1 : Nat)]) (edgeRep_ok' (x := (r0, x0, x1)) ⟨Hrok.out.1, Hoka.out.1, Hoka.out.2⟩) (by rw [Hln.out]; exact Ho3.out) (fun b hb => hb.elim) (by omega)
            rw [Htk.out, List.map_append, ← List.append_assoc]
            refine hS.keep (fun b hb hl => Below.heap_setCell _ _ _ _ (fun e => ?_)) (by simp)
            simp only at e
            rcases hb with h | h
            · exact h
            · rcases hg3' b h with h | h
              · exact Hg1s.out (by rw [h, e])
              · omega
          · rcases hg3' b hb with h | h
            · exact J4.out b h
            · right; omega
          · refine (J5.out.trans hOn (fun i hi h => (J4.out i h).elim .inr (fun h => by omega))).setCell (fun _ => .inl rfl) _
        case measure => simp [intOf]; omega
      · obtain rfl : k = rl.length := by omega
        rw [List.take_length] at j3
        have J3 := Lib.hid j3
        have J4 := Lib.hid j4
        have J5 := Lib.hid j5
        have hgJ := j3.lt
        clear j3 j4 j5
        gi_wp2_with fail
        refine ⟨fun k => k = w.heap.size ∨ g1 = some k, ⟨J5.out.mono (fun k _ h => h.elim (fun e => e ▸ h6) (fun e => (H5.out k e).1)), fun k hk => ?_⟩, ao1, cap1, g1, ?_, j2, ?_, fun k hk => ⟨.inr hk, ?_⟩, .inl rfl⟩
        · rcases hk with rfl | hk
          · exact ⟨.inl h6, by omega⟩
          · exact ⟨(J4.out k hk).elim (fun h => .inl (H5.out k h).1) (fun h => .inr (.inr h)), hgJ k hk⟩
        · rw [HE9.out, List.length_append, List.length_map]; exact j1
        · rw [HE9.out]; exact J3.out
        · exact (J4.out k hk).elim (fun h => (H5.out k h).2) (fun h => by omega)
  case done =>
    rintro D xs fq W hD hxs ⟨ao', cap', g, h1, h2, h3, h5, h6⟩ honly hfo hlt hnD hk
    rw [hxs] at h1 h3
    have hbW : Below w.heap.size w W := HB1.out.trans (honly.below (by omega) (by rintro k hk (h | h) <;> first | omega | exact h))
    have Hbw := Lib.hid hbW
    have H3 := Lib.hid h3
    have H5 := Lib.hid h5
    have Hnd := Lib.hid hnD
    have Hk := Lib.hid hk
    generalize edgesM R = E at *
    clear hbW h3 h5 hnD hk hxs honly hfo hlt hit
    dsimp only
    gi_wp2_with fail
    refine leaveM1 (v := .slice ao' E.length cap') Hk.out ?_ ?_
    · simp [results, Try.results33, go_sem]
    · refine ⟨ao', cap', g, rfl, H3.out.keep (fun b hb hl => World.putObj_heap_other (fun e => ?_)) (by simp), fun k hk => Nat.le_of_lt (H5.out k hk).2, ext_put Hbw.out (by omega)⟩
      subst e
      rcases hb with h | h
      · exact h
      · exact Hnd.out (H5.out _ h).1
  case stop =>
    rintro D c xs fq W hD hokk h honly hfo hlt hnD hk
    exact h.elim
end Go.Proofs.Ytlgnpogmgpgdaaa

namespace Go.Proofs.Ytlgnpogmgpgdaaa
set_option linter.unusedSimpArgs false
set_option linter.unusedVariables false
set_option maxRecDepth 100000
open Go.RowKit

def VertsRet (V : List Nat) (w : World) (e : Ending) (w' : World) : Prop :=
  ∃ a c, e = .returned (.slice a V.length c) ∧ Rd w' a V.length (u32s V) ∧ Below w.heap.size w w'
def gvI (s : Nat) (pre : List RowG) (fq : Nat → Prop) (W : World) : Prop :=
  ∃ (ao : Option Addr) (cap : Nat) (g : Option Nat), W.cell? ⟨s, 0, none⟩ = some (.slice ao (rawV (pre.map (·.1))).length cap) ∧ W.frozen? ⟨s, 0, none⟩ = false ∧ Own W ao cap g 23 1 (rawV (pre.map (·.1))).length (u32s (rawV (pre.map (·.1)))) ∧
    (∀ k, g = some k → fq k ∧ s < k) ∧ fq s
/-- within a row -/
def gvJ (s : Nat) (N0 : List Nat) (rl : List ArcD) (g0 : Option Nat) (W : World) (v : Value) (wr : World) : Prop :=
  ∃ (k : Nat) (ao : Option Addr) (cap : Nat) (g : Option Nat), v = .int .i64 (k : Nat) ∧ k ≤ rl.length ∧ wr.cell? ⟨s, 0, none⟩ = some (.slice ao (N0.length + k) cap) ∧ wr.frozen? ⟨s, 0, none⟩ = false ∧
    Own wr ao cap g 23 1 (N0.length + k) (u32s (N0 ++ (rl.take k).map (·.1))) ∧ (∀ k, g = some k → g0 = some k ∨ W.heap.size ≤ k) ∧ Only (fun k => k = s ∨ g0 = some k) W wr
theorem rawV_append (A B : List RowD) : rawV (A ++ B) = rawV A ++ rawV B := by unfold rawV; rw [List.flatMap_append]
theorem raw_prefix {A B : List RowD} (h : A <+: B) : (rawV A).length ≤ (rawV B).length := by
  obtain ⟨C, rfl⟩ := h
  rw [rawV_append, List.length_append]; omega
theorem u32s_append (A B : List Nat) : u32s (A ++ B) = u32s A ++ u32s B := by simp [u32s]
theorem own_setOut {w : World} {s : Nat} {v : Value} {ao : Option Addr} {cap : Nat} {g : Option Nat} {e : TypeId} {size n : Nat} {xs : List Value} (h : Own w ao cap g e size n xs) (hs : g ≠ some s) : Own (w.setCell ⟨s, 0, none⟩ v) ao cap g e size n xs :=
  h.setCell (p := ⟨s, 0, none⟩) (fun b hb e => hs (by rw [hb, e])) v
theorem verts_of {R : List RowD} (h : ∀ r ∈ R, r.2 ≠ []) {d : Array Nat} (hp : Sort.PermIn 0 (rawV R).length (rawV R).toArray d) (hs : Srt 0 (rawV R).length d) : keptN (fun t => d[t]!) (rawV R).length = vertM R := by
  have hsz : d.size = (rawV R).length := by rw [hp.1]; simp
  refine kept_vert h _ _ (fun i j h1 h2 => hs i j (Nat.zero_le _) h1 h2) (fun x => ?_)
  have hperm : d.toList.Perm (rawV R) := by
    have p3 := hp.2.2
    have e1 : d.extract 0 (rawV R).length = d := by rw [← hsz]; simp
    have e2 : (rawV R).toArray.extract 0 (rawV R).length = (rawV R).toArray := by
      have : (rawV R).toArray.size = (rawV R).length := by simp
      rw [← this]; exact Array.extract_size
    rw [e1, e2] at p3
    simpa using p3
  rw [← hperm.mem_iff, List.mem_iff_getElem]
  constructor
  · rintro ⟨i, hi, rfl⟩
    exact ⟨i, by simpa [hsz] using hi, by rw [getElem!_pos d i (by omega)]; simp⟩
  · rintro ⟨i, hi, rfl⟩
    have hi' : i < d.size := by simpa using hi
    exact ⟨i, by omega, by rw [getElem!_pos d i hi']; simp⟩

attribute [local go_sem] Oper.semAt_some

set_option maxRecDepth 100000 in
set_option maxHeartbeats 3200000 in
theorem gverts_any (p : Option Nat) (R : List RowD) (rfp : Nat → Prop) (w : World) (hl : R.length ≤ 100000) (hok : ∀ r ∈ R, r.1 < 4294967296 ∧ r.2.length ≤ 100000 ∧ r.2 ≠ [] ∧ ∀ a ∈ r.2, okA a) (hVl : (rawV R).length < 65536) (hg : GraphIs w rfp p R) (hrl : ∀ k, rfp k → k < w.heap.size) :
    Calls Try.prog 36 #[gV p] w (VertsRet (vertM R) w) := by
  have hE := u32sElem
  have hit := fun b => grows_iter b p R rfp hl (fun r hr => (hok r hr).2.1)
  have Hg := Lib.hid hg
  have Hok := Lib.hid hok
  clear hg hok
  refine (callsIn_wide (n := 0)).1 (callsIn_of_wp_marks Try.func36 rfl trivial ?_)
  simp only [Try.ntmps36, List.size_toArray, List.length_cons, List.length_nil, Nat.reduceAdd, Nat.reduceSub, Array.replicate_succ, Array.replicate_zero, List.push_toArray, List.append_toArray, List.nil_append, List.cons_append]
  gi_wp2_with (gi_at_call 68; refine (callsIn_wide.2 (grows_any _ _)).mono ?_; rintro e w2 ⟨rfl, rfl⟩)
  obtain ⟨w1, hw1⟩ : ∃ w1, ((w.alloc (Obj.cells #[Value.slice none 0 0] 24)).alloc (Obj.cells #[.pointer (p.map fun g => ⟨g, 0, none⟩)] 57)) = w1 := ⟨_, rfl⟩
  have hs1 : w1.heap.size = w.heap.size + 2 := by rw [← hw1]; simp
  have hB1 : Below w.heap.size w w1 := by rw [← hw1]; exact (ext_alloc w _).alloc (by simp) _
  have c2 : w1.cell? ⟨w.heap.size + 1, 0, none⟩ = some (gV p) := by rw [← hw1]; unfold gV; simp [go_sem, ↓IntWalk.iteOmega]
  have hI0 : gvI w.heap.size [] (fun k => k = w.heap.size) w1 := by
    rw [← hw1]
    exact ⟨none, 0, none, by simp [go_sem, ↓IntWalk.iteOmega]; rfl, by simp only [go_sem]; simp, Own.nil _ _ _, (fun k h => by cases h), rfl⟩
  rw [hw1]
  have HB1 := Lib.hid hB1
  have HI0 := Lib.hid hI0
  have hs1' : w.heap.size + 2 ≤ w1.heap.size := by omega
  clear hw1 hs1 hB1 hI0
  refine wpIn_rangeTB (gf := 97) (lb := #[.pointer (some ⟨w.heap.size + 1, 0, none⟩)]) rfl (enters_of Try.func97 (by kernel_rfl) rfl) (hit _) (fun _ => rfl)
    (fun k => k = w.heap.size) ?hfp ?hrs (fun k h => h.elim)
    (fun pre fq W => gvI w.heap.size pre fq W) (fun c pre fq W => False) ?hI (fun _ _ _ _ _ h _ => h) (fun _ _ _ _ => trivial) ?hPre HI0.out
    [(9, fun x : RowG => .agg #[.int .u32 (x.1.1 : Nat), .slice x.2.1 x.1.2.length x.2.2])] 4 80 (fun x => #[.int .u32 (x.1.1 : Nat), .slice x.2.1 x.1.2.length x.2.2]) ?assign ?body ?done ?stop
  case hfp =>
    intro k hk
    refine ⟨by omega, fun h => ?_⟩
    rcases h with h | h
    · omega
    · have := hrl k h; omega
  case hrs =>
    rintro k (h | h)
    · omega
    · have := hrl k h; omega
  case hI =>
    rintro pre fq A B ⟨ao', cap', g, h1, h2, h3, h5, h6⟩ hs
    exact ⟨ao', cap', g, (hs.cell h6 0).trans h1, (hs.frozen h6 0).trans h2, h3.stays hs (fun b hb => (h5 b hb).1), h5, h6⟩
  case hPre =>
    intro W hb
    have hsz := hb.size
    exact ⟨((bcell hb).1 _ 0 (by omega)).trans c2, (Hg.out.ext HB1.out).ext hb, fun k h => by have := hrl k h; omega⟩
  case assign =>
    intro l x W K hK
    rw [show encG x = #[.agg #[.int .u32 (x.1.1 : Nat), .slice x.2.1 x.1.2.length x.2.2]] from rfl]
    gi_wp2
    exact hK
  case body =>
    rintro l0 pre fq tp x W Wy q hq hl0 hr0 honly hokk ⟨⟨gx, hxo, hxt⟩, hxr⟩ ho0 hnl hflt htp ⟨ao', cap', g, h1, h2, h3, h5, h6⟩ hsz
    simp only [List.foldl_cons, List.foldl_nil, List.setIfInBounds_toArray, List.set_cons_zero, List.set_cons_succ]
    obtain ⟨⟨r0, rl⟩, ax, cx⟩ := x
    simp only at hxo hxr hq
    have hrok := Hok.out (r0, rl) (List.mem_of_getElem? hxr)
    simp only at hrok
    have hqb := cell_of_row W q 0 _ _ _ hq
    have hqb1 := cell_of_row W q 1 _ _ _ hq
    simp only [List.getElem?_toArray, List.getElem?_cons_zero, List.getElem?_cons_succ] at hqb hqb1
    have hpre : (rawV (pre.map (·.1))).length + 1 + rl.length < 65536 := by
      have h9 := raw_prefix hokk
      rw [List.map_append, rawV_append, List.length_append] at h9
      simp [rawV] at h9 hVl ⊢
      omega
    have hxl : ∀ b, gx = some b → b < Wy.heap.size ∧ ¬ fq b ∧ b ≠ l0 := fun b hb => by
      obtain ⟨e1, e2, e3, e4⟩ := htp b ((hxt b).2 hb)
      exact ⟨e2, e3, e4⟩
    have hor := hxo.only ho0 (fun b hb _ e => by rcases hb with hb | hb; exact hb; exact (hxl b hb).2.2 e)
    have hrda : RdS arcRep (fun b => gx = some b) W ax rl := hor.rd.mono (fun b hb _ => hb.elim (fun h => h.elim) id)
    have hqs : q ≠ w.heap.size := fun e => by rw [e] at hqb; rw [hqb] at h1; cases h1
    have hqg : g ≠ some q := h3.notCells hq (by decide)
    have hqW : q < W.heap.size := (Array.getElem?_eq_some_iff.1 hq).1
    have HE9 := Lib.hid (show rawV ((pre ++ [((r0, rl), (ax, cx))]).map (·.1)) = rawV (pre.map (·.1)) ++ [r0] ++ rl.map (·.1) by rw [List.map_append, rawV_append]; simp [rawV])
    have Hxl := Lib.hid hxl
    have Hrda := Lib.hid hrda
    have hgs : g ≠ some w.heap.size := fun e => by have := (h5 _ e).2; omega
    have hxf : ∀ b, gx = some b → b ≠ w.heap.size ∧ g ≠ some b := fun b hb => ⟨fun e => (hxl b hb).2.1 (e ▸ h6), fun e => (hxl b hb).2.1 (h5 b e).1⟩
    have hsW : w.heap.size < W.heap.size := hflt _ h6
    have Hflt := Lib.hid hflt
    have H5 := Lib.hid h5
    have Hxf := Lib.hid hxf
    have Hxt := Lib.hid hxt
    have Hrok := Lib.hid hrok
    have Hgs := Lib.hid hgs
    have Hown0 := Lib.hid h3
    clear hit hxo hxl hor hrda hokk hxr hxt htp hflt h3 h5 hrok hr0 honly ho0 hnl hl0 hq hgs hxf HI0
    generalize rawV (pre.map (·.1)) = N0 at *
    dsimp only
    gi_wp2_with (gi_at_builtin; refine wpListIn_app rfl (.tmp 10) (.tmp 13) 24 24 rfl hE (Hown0.out.alloc _) rfl rfl (srcOne Try.underlying24 _ _ _ _ rfl) (by simp [maxLen]; omega) (by omega) ?_; intro ao2 cap2 g2 W2 ho2 hg2 hon2; have hon4 : Only (fun k => g = some k) W W2 := ((Only.refl (fun k => g = some k) W).alloc _).trans hon2 (fun _ _ h => h); have k1 := (hon4.cell (by omega) Hgs.out 0).trans h1; have k2 := (hon4.frozen (by omega) Hgs.out 0).trans h2; have k3 := (hon4.cell hqW hqg 0).trans hqb; have k4 := (hon4.cell hqW hqg 1).trans hqb1; have Ho2 := Lib.hid ho2; have Hg2 := Lib.hid hg2; have Hon2 := Lib.hid hon4; clear ho2 hg2 hon2 hon4)
    have hsz2 : W.heap.size ≤ W2.heap.size := Hon2.out.size
    have hg2' : ∀ k, g2 = some k → g = some k ∨ W.heap.size ≤ k := fun k h => by
      rcases Hg2.out with rfl | rfl
      · exact .inl h
      · cases h; right; simp
    have hg2s : g2 ≠ some w.heap.size := fun e => (hg2' _ e).elim (fun h => Hgs.out h) (fun h => by omega)
    obtain ⟨W4, hW4⟩ : ∃ W4, W2.setCell ⟨w.heap.size, 0, none⟩ (.slice ao2 (N0.length + 1) cap2) = W4 := ⟨_, rfl⟩
    have O4 : Only (fun k => k = w.heap.size ∨ g = some k) W W4 := by rw [← hW4]; exact (Hon2.out.mono (fun k _ h => .inr h)).setCell (fun _ => .inl rfl) _
    have H0 : Hid (gvJ w.heap.size (N0 ++ [r0]) rl g W (.int .i64 0) W4) := by
      refine ⟨0, ao2, cap2, g2, rfl, Nat.zero_le _, by rw [← hW4]; simp [cell_set_ite, k1], by rw [← hW4, World.frozen?_setCell]; exact k2, ?_, hg2', O4⟩
      rw [← hW4]
      have h9 := own_setOut (v := .slice ao2 (N0.length + 1) cap2) Ho2.out hg2s
      rw [List.length_append, List.take_zero, List.map_nil, List.append_nil, u32s_append]
      exact h9
    rw [hW4]
    clear hW4 k1 k2 k3 k4 hqb1 h1 h2
    gi_loopw [18] (fun v wr => gvJ w.heap.size (N0 ++ [r0]) rl g W v wr) (fun v _ => rl.length - (intOf v).toNat)
    case atStart => exact H0.out
    case round =>
      obtain ⟨k, ao1, cap1, g1, rfl, hk, j1, j2, j3, j4, j5⟩ := hrel
      rename World => wo
      have hs5 := j5.size
      rw [List.length_append, List.length_singleton] at j1 j3
      by_cases hlt : k < rl.length
      · obtain ⟨bb, off, rfl, hbb, hc0, hc1, hoka⟩ := (Hrda.out.only j5 (fun b hb _ e => e.elim (fun e => (Hxf.out b hb).1 e) (fun e => (Hxf.out b hb).2 e))).arc k hlt
        have hir : (k : Int) < (rl.length : Int) := by omega
        have htk : rl.take (k + 1) = rl.take k ++ [rl[k]] := List.take_succ_eq_append_getElem hlt
        generalize rl[k] = x at hc0 hc1 hoka htk
        obtain ⟨x0, x1⟩ := x
        simp only at hc0 hc1
        have hg1s : g1 ≠ some w.heap.size := fun e => (j4 _ e).elim (fun h => Hgs.out h) (fun h => by omega)
        have Hg1s := Lib.hid hg1s
        have Hown := Lib.hid j3
        have Htk := Lib.hid htk
        have J4 := Lib.hid j4
        have J5 := Lib.hid j5
        obtain ⟨w2, hw2⟩ : ∃ w2, wo.alloc (.cells #[.int .u32 (x0 : Nat), .int .u32 (x1 : Nat)] 42) = w2 := ⟨_, rfl⟩
        have E2 := Lib.hid (show Below wo.heap.size wo w2 by rw [← hw2]; exact ext_alloc _ _)
        have d0 : w2.cell? ⟨wo.heap.size, 0, none⟩ = some (.int .u32 (x0 : Nat)) := by rw [← hw2]; simp
        have d1 : w2.cell? ⟨wo.heap.size, 1, none⟩ = some (.int .u32 (x1 : Nat)) := by rw [← hw2]; simp
        have hsw : w.heap.size < wo.heap.size := by omega
        have s2 := ((bcell E2.out).1 w.heap.size 0 hsw).trans j1
        have f2 := ((bcell E2.out).2 w.heap.size 0 hsw).trans j2
        clear htk j3 j4 j5 hoka hg1s
        gi_wp2_with (gi_at_builtin; refine wpListIn_app rfl (.tmp 22) (.tmp 25) 24 24 rfl hE ((Hown.out.ext E2.out).alloc _) rfl rfl (srcOne Try.underlying24 _ _ _ _ rfl) (by simp [maxLen]; omega) (by omega) ?_; intro ao3 cap3 g3 W3 ho3 hg3 hon3; have hon4 : Only (fun k => g1 = some k) w2 W3 := ((Only.refl (fun k => g1 = some k) w2).alloc _).trans hon3 (fun _ _ h => h); have hsw2 := E2.out.size; have e1 := (hon4.cell (by omega) Hg1s.out 0).trans s2; have e2 := (hon4.frozen (by omega) Hg1s.out 0).trans f2; have Ho3 := Lib.hid ho3; have Hg3 := Lib.hid hg3; have Hon4 := Lib.hid hon4; clear ho3 hg3 hon3 hon4)
        have hsz3 : w2.heap.size ≤ W3.heap.size := Hon4.out.size
        have hsw2 := E2.out.size
        have hg3' : ∀ k, g3 = some k → g1 = some k ∨ w2.heap.size ≤ k := fun k h => by
          rcases Hg3.out with rfl | rfl
          · exact .inl h
          · cases h; right; simp
        have hOn : Only (fun k => g1 = some k) wo W3 := (Only.of_below (fp := fun k => g1 = some k) E2.out).trans Hon4.out (fun _ _ h => h)
        go_roundw
        case rel =>
          refine ⟨k + 1, ao3, cap3, g3, by go_num, by omega, by simp [cell_set_ite, e1, Nat.add_assoc], by rw [World.frozen?_setCell]; exact e2, ?_, fun b hb => ?_, ?_⟩
          · have h9 := own_setOut (v := .slice ao3 (N0.length + 1 + k + 1) cap3) Ho3.out (fun e => (hg3' _ e).elim (fun h => Hg1s.out h) (fun h => by omega))
            rw [Htk.out, List.map_append, ← List.append_assoc, u32s_append, List.length_append, List.length_singleton, ← Nat.add_assoc]
            exact h9
          · rcases hg3' b hb with h | h
            · exact J4.out b h
            · right; omega
          · refine (J5.out.trans hOn (fun i hi h => (J4.out i h).elim .inr (fun h => by omega))).setCell (fun _ => .inl rfl) _
        case measure => simp [intOf]; omega
      · obtain rfl : k = rl.length := by omega
        rw [List.take_length] at j3
        have J3 := Lib.hid j3
        have J4 := Lib.hid j4
        have J5 := Lib.hid j5
        have hgJ := j3.lt
        clear j3 j4 j5
        gi_wp2_with fail
        refine ⟨fun k => k = w.heap.size ∨ g1 = some k, ⟨J5.out.mono (fun k _ h => h.elim (fun e => e ▸ h6) (fun e => (H5.out k e).1)), fun k hk => ?_⟩, ao1, cap1, g1, ?_, j2, ?_, fun k hk => ⟨.inr hk, ?_⟩, .inl rfl⟩
        · rcases hk with rfl | hk
          · exact ⟨.inl h6, by omega⟩
          · exact ⟨(J4.out k hk).elim (fun h => .inl (H5.out k h).1) (fun h => .inr (.inr h)), hgJ k hk⟩
        · rw [HE9.out, List.length_append, List.length_append, List.length_singleton, List.length_map]; exact j1
        · rw [HE9.out, List.length_append, List.length_append, List.length_singleton, List.length_map]; exact J3.out
        · exact (J4.out k hk).elim (fun h => (H5.out k h).2) (fun h => by omega)
  case done =>
    rintro D xs fq W hD hxs ⟨ao', cap', g, h1, h2, h3, h5, h6⟩ honly hfo hlt hnD hk
    rw [hxs] at h1 h3
    have hbW : Below w.heap.size w W := HB1.out.trans (honly.below (by omega) (by rintro k hk (h | h) <;> first | omega | exact h))
    have hDW : D < W.heap.size := (Array.getElem?_eq_some_iff.1 hk).1
    have hsW : w.heap.size < W.heap.size := hlt _ h6
    have hgs : g ≠ some w.heap.size := fun e => by have := (h5 _ e).2; omega
    have hgD : g ≠ some D := fun e => hnD (h5 D e).1
    have hsD : w.heap.size ≠ D := fun e => hnD (e ▸ h6)
    have Hbw := Lib.hid hbW
    have H5 := Lib.hid h5
    have Hk := Lib.hid hk
    have Hdis := Lib.hid (And.intro hgs hgD)
    have HV := Lib.hid (fun (d : Array Nat) hp hs => @verts_of R (fun r hr => (Hok.out r hr).2.2.1) d hp hs)
    by_cases h0 : (rawV R).length = 0
    · have hv : vertM R = [] := by
        have := HV.out #[] (by rw [List.eq_nil_of_length_eq_zero h0]; exact ⟨rfl, fun _ _ => rfl, .nil⟩) (fun i j h1 h2 h3 => by omega)
        rw [h0] at this; exact this.symm
      rw [h0] at h1
      have Hv := Lib.hid hv
      clear hbW h3 h5 hnD hk hxs honly hfo hlt hit hv h0 HV hgs hgD
      dsimp only
      gi_wp2_with (first
        | (gi_at_call 71; refine (callsIn_wide.2 (sort32_nil _ _ _)).mono ?_; rintro e w2 ⟨rfl, hw2⟩; obtain rfl : W = w2 := hw2.symm; clear hw2)
        | (gi_at_call 72; refine (callsIn_wide.2 (comp32_nil _ _ _)).mono ?_; rintro e w2 ⟨rfl, hw2⟩; obtain rfl : W = w2 := hw2.symm; clear hw2))
      refine leaveM1 (v := .slice ao' 0 cap') Hk.out ?_ ?_
      · simp [results, Try.results36, go_sem]
      · rw [Hv.out]
        exact ⟨ao', cap', rfl, ⟨rfl, .inl rfl⟩, ext_put Hbw.out (by omega)⟩
    · obtain ⟨b, rfl, rfl, hb⟩ := h3.pos (by omega)
      have hcl := h3.capLe
      have hho := own_holds h3
      have hS := sort32_any b 0 cap' (rawV R).toArray W hho hb (by simp; omega)
      rw [List.size_toArray] at hS
      have HS := Lib.hid hS
      have HCo := Lib.hid (fun (d : Array Nat) W' (h : Sort.Holds e32 W' b 0 d) (hsz : d.size = (rawV R).length) => comp32_any b 0 cap' d W' h (by omega) (by simp [maxLen] at hcl; omega) (by omega))
      have hbn := (H5.out b rfl).2
      have hne : ¬ w.heap.size = b := by omega
      clear hbW h3 h5 hnD hk hxs honly hfo hlt hit hho hS hgs hgD h0
      dsimp only
      gi_wp2_with (first
        | (gi_at_call 71; refine (callsIn_wide.2 HS.out).mono ?_; rintro e w2 ⟨rfl, d, hp, hsr, hrs⟩; have hsz : d.size = (rawV R).length := (by rw [hp.1]; simp); have k1 := (hrs.2.cell hsW hne 0).trans h1; have hve := HV.out d hp hsr; have Hc := HCo.out d w2 hrs.1 hsz; rw [hsz, hve] at Hc; have HCC := Lib.hid Hc; have Hrs := Lib.hid hrs; clear hp hsr hrs hve Hc HCo)
        | (gi_at_call 72; refine (callsIn_wide.2 HCC.out).mono ?_; rintro e w3 ⟨rfl, hrs3⟩; have Hrs3 := Lib.hid hrs3; clear hrs3))
      have hkD : w3.heap[D]? = some (.deferred (some [])) := by
        rw [Hrs3.out.2.same D (Nat.lt_of_lt_of_le hDW Hrs.out.2.size) (fun e => Hdis.out.2 (by rw [e])), Hrs.out.2.same D hDW (fun e => Hdis.out.2 (by rw [e]))]
        exact Hk.out
      refine leaveM1 (v := .slice (some ⟨b, 0, none⟩) (vertM R).length cap') hkD ?_ ?_
      · simp [results, Try.results36, go_sem]
      · have hsz9 := Nat.le_trans Hrs.out.2.size Hrs3.out.2.size
        refine ⟨some ⟨b, 0, none⟩, cap', rfl, ⟨by simp [u32s], .inr ⟨b, 0, rfl, by simp; omega, fun j hj => ?_⟩⟩, ?_⟩
        · rw [cell_put _ _ _ _ _ (fun e => Hdis.out.2 (by rw [e]))]
          have h9 := (Hrs3.out.1 j (by simpa using hj)).1
          rw [h9, getElem!_pos _ j (by simpa using hj)]
          simp [u32s, e32, List.getElem?_map, List.getElem?_eq_getElem hj]
        · refine ext_put (Hbw.out.trans ?_) (by omega)
          exact ⟨Hrs3.out.2.os.trans Hrs.out.2.os, Hrs3.out.2.tape.trans Hrs.out.2.tape, Hrs3.out.2.output.trans Hrs.out.2.output, hsz9, fun k hk9 => (Hrs3.out.2.same k (by have := Hrs.out.2.size; omega) (by omega)).trans (Hrs.out.2.same k (by omega) (by omega))⟩
  case stop =>
    rintro D c xs fq W hD hokk h honly hfo hlt hnD hk
    exact h.elim
end Go.Proofs.Ytlgnpogmgpgdaaa
