/- gaps.Find: where an end stands among rising arcs. -/
import Derived.Test.YtlgnpogmgpgdaaaStepPlain
import Derived.Test.YtlgnpogmgpgdaaaBdSort
namespace Go.Proofs.Ytlgnpogmgpgdaaa
set_option linter.unusedSimpArgs false
set_option linter.unusedVariables false
set_option maxRecDepth 100000
open Go.RowKit

def cmpN (a b : Nat) : Int := if a < b then -1 else if b < a then 1 else 0
set_option maxHeartbeats 1600000 in
theorem cmp32_any (a b : Nat) (w : World) : Calls Try.prog 80 #[.int .u32 (a : Nat), .int .u32 (b : Nat)] w fun e w' => e = .returned (.int .i64 (cmpN a b)) ∧ w' = w := by
  unfold cmpN
  by_cases h1 : a < b
  · rw [if_pos h1]
    have d1 : decide (a < b) = true := decide_eq_true h1
    have d1' : decide ((a : Int) < (b : Int)) = true := decide_eq_true (by omega)
    clear h1
    go_enter Try.func80, Try.ntmps80
    go_wp2_with (go_at_call 101; refine (isNaN32_any _ _).mono ?_; rintro e w' ⟨rfl, rfl⟩)
    go_ret
    exact ⟨rfl, rfl⟩
  · rw [if_neg h1]
    have d1 : decide (a < b) = false := decide_eq_false h1
    have d1' : decide ((a : Int) < (b : Int)) = false := decide_eq_false (by omega)
    by_cases h2 : b < a
    · rw [if_pos h2]
      have d2 : decide (b < a) = true := decide_eq_true h2
      have d2' : decide ((b : Int) < (a : Int)) = true := decide_eq_true (by omega)
      clear h1 h2
      go_enter Try.func80, Try.ntmps80
      go_wp2_with (go_at_call 101; refine (isNaN32_any _ _).mono ?_; rintro e w' ⟨rfl, rfl⟩)
      go_ret
      exact ⟨rfl, rfl⟩
    · rw [if_neg h2]
      have d2 : decide (b < a) = false := decide_eq_false h2
      have d2' : decide ((b : Int) < (a : Int)) = false := decide_eq_false (by omega)
      clear h1 h2
      go_enter Try.func80, Try.ntmps80
      go_wp2_with (go_at_call 101; refine (isNaN32_any _ _).mono ?_; rintro e w' ⟨rfl, rfl⟩)
      go_ret
      exact ⟨rfl, rfl⟩
set_option maxHeartbeats 1600000 in
theorem find1_any (a0 a1 tv : Nat) (w : World) : Calls Try.prog 79 #[.agg #[.int .u32 (a0 : Nat), .int .u32 (a1 : Nat)], .int .u32 (tv : Nat)] w (RetB (.int .i64 (cmpN a0 tv)) w) := by
  have HC := Lib.hid (fun W => cmp32_any a0 tv W)
  generalize cmpN a0 tv = r at *
  go_enter Try.func79, Try.ntmps79
  go_wp2_with (go_at_call 80; refine (HC.out _).mono ?_; rintro e w' ⟨rfl, rfl⟩)
  go_ret
  exact ⟨rfl, ext_alloc _ _⟩
/-- the search's state: what lies below i is lower, what lies from j on isn't -/
def bsI (l : List ArcD) (tv : Nat) (w : World) (v9 v10 : Value) (wr : World) : Prop :=
  ∃ i j : Nat, i ≤ j ∧ j ≤ l.length ∧ v9 = .int .i64 (i : Nat) ∧ v10 = .int .i64 (j : Nat) ∧ (∀ k (h : k < l.length), k < i → l[k].1 < tv) ∧ (∀ k (h : k < l.length), j ≤ k → tv ≤ l[k].1) ∧ Below w.heap.size w wr
def FindRet (l : List ArcD) (tv : Nat) (w : World) (e : Ending) (w' : World) : Prop :=
  ∃ i : Nat, i ≤ l.length ∧ e = .returned (.tuple #[.int .i64 (i : Nat), .bool (nearM l tv)]) ∧ (nearM l tv = true → ∃ h : i < l.length, l[i].1 = tv) ∧ Below w.heap.size w w'
theorem near_at {l : List ArcD} {tv i : Nat} (hp : l.Pairwise (fun a b => a.1 < b.1)) (h1 : ∀ k (h : k < l.length), k < i → l[k].1 < tv) (h2 : ∀ k (h : k < l.length), i ≤ k → tv ≤ l[k].1) :
    nearM l tv = (if h : i < l.length then (l[i].1 == tv) else false) := by
  unfold nearM
  rw [Bool.eq_iff_iff, List.any_eq_true]
  constructor
  · rintro ⟨a, ha, e⟩
    obtain ⟨k, hk, rfl⟩ := List.mem_iff_getElem.1 ha
    rw [beq_iff_eq] at e
    have hik : i ≤ k := by
      rcases Nat.lt_or_ge k i with h | h
      · have := h1 k hk h; omega
      · exact h
    have hi : i < l.length := by omega
    rw [dif_pos hi, beq_iff_eq]
    rcases Nat.lt_or_ge i k with h | h
    · have a1 := List.pairwise_iff_getElem.1 hp i k hi hk h
      have a2 := h2 i hi (Nat.le_refl _)
      omega
    · obtain rfl : i = k := by omega
      exact e
  · intro h
    split at h
    · rename_i hi
      exact ⟨l[i], List.getElem_mem hi, h⟩
    · cases h
theorem bs_up {l : List ArcD} {tv h : Nat} (hp : l.Pairwise (fun a b => a.1 < b.1)) (hh : h < l.length) (hc : l[h].1 < tv) : ∀ k (hk : k < l.length), k < h + 1 → l[k].1 < tv := fun k hk hkh => by
  rcases Nat.lt_or_ge k h with e | e
  · have := List.pairwise_iff_getElem.1 hp k h hk hh e; omega
  · obtain rfl : k = h := by omega
    exact hc
theorem bs_down {l : List ArcD} {tv h : Nat} (hp : l.Pairwise (fun a b => a.1 < b.1)) (hh : h < l.length) (hc : tv ≤ l[h].1) : ∀ k (hk : k < l.length), h ≤ k → tv ≤ l[k].1 := fun k hk hkh => by
  rcases Nat.lt_or_ge h k with e | e
  · have := List.pairwise_iff_getElem.1 hp h k hh hk e; omega
  · obtain rfl : k = h := by omega
    exact hc
set_option maxRecDepth 100000 in
set_option maxHeartbeats 3200000 in
theorem bsearch_any (l : List ArcD) (tv : Nat) (ao : Option Addr) (cap : Nat) (fp : Nat → Prop) (w : World) (hl : l.length ≤ 100000) (hp : l.Pairwise (fun a b => a.1 < b.1)) (hrd : RdS arcRep fp w ao l) :
    Calls Try.prog 78 #[.slice ao l.length cap, .int .u32 (tv : Nat), .func (.func 79) #[] #[]] w (FindRet l tv w) := by
  have Hp := Lib.hid hp
  have Hrd := Lib.hid hrd
  have HF := Lib.hid (fun a0 a1 W => find1_any a0 a1 tv W)
  clear hp hrd
  go_enter Try.func78, Try.ntmps78
  go_wp2_with fail
  go_loopw [9, 10] (fun v9 v10 wr => bsI l tv w v9 v10 wr) (fun v9 v10 _ => (intOf v10).toNat - (intOf v9).toNat)
  case atStart => exact ⟨0, l.length, by omega, Nat.le_refl _, rfl, rfl, fun k h hk => by omega, fun k h hk => by omega, Below.refl _ _⟩
  case round =>
    obtain ⟨i, j, hij, hj, rfl, rfl, hlo, hhi, hB⟩ := hrel
    rename World => wo
    have HB := Lib.hid hB
    have Hlo := Lib.hid hlo
    have Hhi := Lib.hid hhi
    have hbs := hB.size
    clear hB hlo hhi
    by_cases hlt : i < j
    · obtain ⟨h, hh⟩ : ∃ h, (i + j) / 2 = h := ⟨_, rfl⟩
      have hhl : h < l.length := by omega
      obtain ⟨b, off, rfl, hb, hc0', hc1', hok⟩ := Hrd.out.arc h hhl
      have hc0 := ((bcell HB.out).1 _ _ hb).trans hc0'
      have hc1 := ((bcell HB.out).1 _ _ hb).trans hc1'
      have hm1 : ((i : Int) + (j : Int)) / 2 = (h : Int) := by omega
      have d0 : decide (i < j) = true := decide_eq_true hlt
      have hir : (h : Int) < (l.length : Int) := by omega
      have hih : i ≤ h ∧ h < j := by omega
      clear hc0' hc1' hh
      obtain ⟨x, hx⟩ : ∃ x, l[h] = x := ⟨_, rfl⟩
      rw [hx] at hc0 hc1 hok
      have Hx := Lib.hid hx
      clear hx
      obtain ⟨x0, x1⟩ := x
      simp only at hc0 hc1
      by_cases hcx : x0 < tv
      · have hcm : cmpN x0 tv = -1 := by unfold cmpN; rw [if_pos hcx]
        have HFx := Lib.hid (fun W => HF.out x0 x1 W)
        rw [hcm] at HFx
        have HN := Lib.hid (bs_up Hp.out hhl (show l[h].1 < tv by rw [Hx.out]; exact hcx))
        clear hcm hcx
        go_wp2_with (go_at_call 79; (with_reducible refine (HFx.out _).mono ?_); rintro e w2 ⟨rfl, hB2⟩; have HB2 := Lib.hid hB2; clear hB2)
        go_roundw
        case rel => exact ⟨h + 1, j, by omega, hj, by go_num, rfl, HN.out, Hhi.out, HB.out.trans (HB2.out.mono hbs)⟩
        case measure => simp [intOf]; omega
      · have hcm : decide (cmpN x0 tv < 0) = false := decide_eq_false (by unfold cmpN; rw [if_neg hcx]; split <;> omega)
        have HFx := Lib.hid (fun W => HF.out x0 x1 W)
        have HN := Lib.hid (bs_down Hp.out hhl (show tv ≤ l[h].1 by rw [Hx.out]; exact Nat.le_of_not_lt hcx))
        generalize cmpN x0 tv = c at *
        clear hcx
        go_wp2_with (go_at_call 79; (with_reducible refine (HFx.out _).mono ?_); rintro e w2 ⟨rfl, hB2⟩; have HB2 := Lib.hid hB2; clear hB2)
        go_roundw
        case rel => exact ⟨i, h, by omega, by omega, rfl, rfl, Hlo.out, HN.out, HB.out.trans (HB2.out.mono hbs)⟩
        case measure => simp [intOf]; omega
    · obtain rfl : i = j := by omega
      have d0 : decide ((i : Int) < (i : Int)) = false := decide_eq_false (by omega)
      have d0' : decide (i < i) = false := decide_eq_false (by omega)
      have hN := near_at Hp.out Hlo.out Hhi.out
      by_cases hi : i < l.length
      · rw [dif_pos hi] at hN
        obtain ⟨b, off, rfl, hb, hc0', hc1', hok⟩ := Hrd.out.arc i hi
        have hc0 := ((bcell HB.out).1 _ _ hb).trans hc0'
        have hc1 := ((bcell HB.out).1 _ _ hb).trans hc1'
        have d1 : decide (i < l.length) = true := decide_eq_true hi
        have d1' : decide ((i : Int) < (l.length : Int)) = true := decide_eq_true (by omega)
        have hir : (i : Int) < (l.length : Int) := by omega
        have Hi := Lib.hid hi
        clear hc0' hc1'
        generalize hx : l[i]'hi = x at hc0 hc1 hok hN
        have Hx := Lib.hid hx
        clear hx
        obtain ⟨x0, x1⟩ := x
        simp only at hc0 hc1 hN
        have hcm : (cmpN x0 tv == 0) = (x0 == tv) := by
          unfold cmpN
          rw [Bool.eq_iff_iff]
          simp only [beq_iff_eq]
          split
          · omega
          · split <;> omega
        have HFx := Lib.hid (fun W => HF.out x0 x1 W)
        have HR := Lib.hid (show nearM l tv = true → ∃ h : i < l.length, l[i].1 = tv from fun e => ⟨Hi.out, by rw [Hx.out]; rw [hN] at e; exact beq_iff_eq.1 e⟩)
        have HN := Lib.hid hN
        have Hcm := Lib.hid hcm
        generalize cmpN x0 tv = c at *
        clear hN hcm
        go_wp2_with (go_at_call 79; (with_reducible refine (HFx.out _).mono ?_); rintro e w2 ⟨rfl, hB2⟩; have HB2 := Lib.hid hB2; clear hB2)
        go_ret2
        exact ⟨i, Nat.le_of_lt Hi.out, by rw [HN.out, ← Hcm.out]; rfl, HR.out, HB.out.trans (HB2.out.mono hbs)⟩
      · rw [dif_neg hi] at hN
        have d1 : decide (i < l.length) = false := decide_eq_false hi
        have d1' : decide ((i : Int) < (l.length : Int)) = false := decide_eq_false (by omega)
        have HN := Lib.hid hN
        clear hN hi
        go_wp2_with fail
        go_ret2
        exact ⟨i, hj, by rw [HN.out]; rfl, (fun e => by rw [HN.out] at e; cases e), HB.out⟩
set_option maxHeartbeats 1600000 in
theorem afind_any (l : List ArcD) (tv : Nat) (ao : Option Addr) (cap : Nat) (fp : Nat → Prop) (w : World) (hl : l.length ≤ 100000) (hp : l.Pairwise (fun a b => a.1 < b.1)) (hrd : RdS arcRep fp w ao l) :
    Calls Try.prog 44 #[.slice ao l.length cap, .int .u32 (tv : Nat)] w (FindRet l tv w) := by
  have HB := Lib.hid (bsearch_any l tv ao cap fp w hl hp hrd)
  clear hp hrd
  go_enter Try.func44, Try.ntmps44
  go_wp2_with (go_at_call 78; (with_reducible refine HB.out.mono ?_); rintro e w2 ⟨i, h1, rfl, h2, h3⟩; have H1 := Lib.hid h1; have H2 := Lib.hid h2; have H3 := Lib.hid h3; clear h1 h2 h3)
  go_ret2
  exact ⟨i, H1.out, rfl, H2.out, H3.out⟩
end Go.Proofs.Ytlgnpogmgpgdaaa
