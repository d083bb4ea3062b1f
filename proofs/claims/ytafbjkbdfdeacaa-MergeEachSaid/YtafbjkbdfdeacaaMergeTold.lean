/- The reference's Told. -/
import Derived.Test.YtafbjkbdfdeacaaMergeLaw1
namespace Go.Proofs.Ytafbjkbdfdeacaa
set_option linter.unusedSimpArgs false
set_option linter.unusedVariables false
open Go.RowKit

theorem RowsRet.ext {r : List RowD × Nat} {w0 w : World} {e : Ending} {w' : World} (h : RowsRet r w e w') (hB : Below w0.heap.size w0 w) : RowsRet r w0 e w' := by
  obtain ⟨ao, cap, h1, h2, h3, h4, h5⟩ := h
  exact ⟨ao, cap, h1, h2, h3, h4.mono (fun b hb _ => Nat.le_trans hB.size hb), hB.trans (h5.mono hB.size)⟩
theorem mtold_prefix : ∀ (ks : List (List UInt8)) (row : RowD) (last : List UInt8), (mtold row last ks).2 ≠ 0 → ∃ k, k < ks.length ∧ (∀ m, k < m → m ≤ ks.length → (mtold row last (ks.take m)).2 ≠ 0) ∧
    (mtold row last (ks.take k)).2 = 0 ∧ ((0 < row.2.length ∨ 0 < k) → ∃ p, (mtold row last (ks.take k)).1 = (mtold row last ks).1 ++ [p]) ∧ (row.2.length = 0 → k = 0 → (mtold row last ks).1 = [])
  | [], row, last, h => by simp [mtold] at h
  | r :: rs, row, last, h => by
    by_cases he : mayErr row last r = 0
    · have e : ∀ l, mtold row last (r :: l) = ((if fullB row (keyE r) = true then [row] else []) ++ (mtold (takeM row (keyE r)) r l).1, (mtold (takeM row (keyE r)) r l).2) := fun l => by
        conv => lhs; unfold mtold
        rw [if_neg (by simp [he])]
      rw [e] at h ⊢
      obtain ⟨k, h1, h2, h3, h4, _⟩ := mtold_prefix rs _ _ h
      refine ⟨k + 1, by simp; omega, ?_, ?_, ?_, by intros; omega⟩
      · intro m hm hm2
        obtain ⟨m, rfl⟩ : ∃ j, m = j + 1 := ⟨m - 1, by omega⟩
        rw [List.take_succ_cons, e]; exact h2 m (by omega) (by simp at hm2; omega)
      · rw [List.take_succ_cons, e]; exact h3
      · intro _
        obtain ⟨p, hp⟩ := h4 (.inl (takeM_pos row (keyE r)))
        exact ⟨p, by rw [List.take_succ_cons, e, hp, List.append_assoc]⟩
    · have e : ∀ l, mtold row last (r :: l) = ([], mayErr row last r) := fun l => by
        conv => lhs; unfold mtold
        rw [if_pos he]
      rw [e]
      refine ⟨0, by simp, ?_, by simp [mtold], ?_, fun _ _ => rfl⟩
      · intro m hm _
        obtain ⟨m, rfl⟩ : ∃ j, m = j + 1 := ⟨m - 1, by omega⟩
        rw [List.take_succ_cons, e]; exact he
      · rintro (h1 | h1)
        · exact ⟨row, by simp [mtold, h1]⟩
        · omega
theorem rowsOf_told (ks : List (List UInt8)) : rowsOf ks = if (mtold (0, []) [] ks).2 = 0 then ((mtold (0, []) [] ks).1, 0) else ([], (mtold (0, []) [] ks).2) := rfl
def toldI (n k : Nat) (w : World) (i : Value) (wr : World) : Prop := ∃ j : Nat, j ≤ n ∧ i = .int .i64 (j : Nat) ∧ (k + 1 ≤ j ∨ (j = 0 ∧ k = 0)) ∧ Below w.heap.size w wr

set_option maxRecDepth 100000 in
set_option maxHeartbeats 3200000 in
theorem rtoldM_any (recs : List (List UInt8)) (ao : Option Addr) (cap : Nat) (w : World) (hl : recs.length ≤ 90000) (hcap : recs.length ≤ cap) (hrd : RdS (Rep.slice Rep.u8) (fun k => k < w.heap.size) w ao recs) :
    Calls Try.prog 23 #[.slice ao recs.length cap] w (RowsRet (mtold (0, []) [] recs) w) := by
  have Hrd := Lib.hid hrd
  clear hrd
  have hP := rrows_any recs ao cap w (by omega) Hrd.out
  rw [rrows_rows] at hP
  have hplen := rowsOf_len recs
  have htl := mtold_err recs (0, []) []
  by_cases he : (mtold (0, []) [] recs).2 = 0
  · have hpt : rowsOf recs = mtold (0, []) [] recs := by rw [rowsOf_told, if_pos he]; exact Prod.ext rfl he.symm
    rw [hpt] at hP hplen
    obtain ⟨⟨l, er⟩, ht⟩ : ∃ r, mtold (0, []) [] recs = r := ⟨_, rfl⟩
    rw [ht] at hP he hplen ⊢
    simp only at he hplen
    subst he
    have HP := Lib.hid hP
    clear hP ht htl hpt
    go_enter Try.func23, Try.ntmps23
    go_wp2_with (go_at_call 21; refine HP.out.mono ?_; rintro e w1 ⟨a1, c1, rfl, h1, h2, hr1, hB1⟩; have Hr1 := Lib.hid hr1; have HB1 := Lib.hid hB1; clear hr1 hB1)
    go_ret2
    exact ⟨a1, c1, rfl, h1, h2, Hr1.out, HB1.out⟩
  · obtain ⟨k, hk1, hk2, hk3, hk4, hk5⟩ := mtold_prefix recs (0, []) [] he
    have hpe : rowsOf recs = ([], (mtold (0, []) [] recs).2) := by rw [rowsOf_told, if_neg he]
    have hQ : ∀ (j : Nat) (W : World), j ≤ recs.length → Below w.heap.size w W → Calls Try.prog 21 #[.slice ao j cap] W (RowsRet (rowsOf (recs.take j)) W) := fun j W hj hB => by
      have := rrows_any (recs.take j) ao cap W (by rw [List.length_take]; omega) (((Hrd.out.below hB (fun _ h => h)).mono (fun b hb _ => Nat.lt_of_lt_of_le hb hB.size)).take j)
      rw [List.length_take, Nat.min_eq_left hj, rrows_rows] at this
      exact this
    have hpre : ∀ m, k < m → m ≤ recs.length → ∃ f, rowsOf (recs.take m) = ([], f) ∧ f ≠ 0 ∧ f < 20 := fun m h1 h2 => by
      exact ⟨(mtold (0, []) [] (recs.take m)).2, by rw [rowsOf_told, if_neg (hk2 m h1 h2)], hk2 m h1 h2, mtold_err _ _ _⟩
    rw [hpe] at hP
    obtain ⟨⟨l, er⟩, ht⟩ : ∃ r, mtold (0, []) [] recs = r := ⟨_, rfl⟩
    rw [ht] at hP he hk4 hk5 htl ⊢
    simp only at hP he hk4 hk5 htl
    have her : er < 20 := by omega
    have hne : ((er : Int) == 0) = false := by simp; omega
    have HP := Lib.hid hP
    have HQ := Lib.hid hQ
    have Hpre := Lib.hid hpre
    have Hk3 := Lib.hid hk3
    have Hk4 := Lib.hid hk4
    have Hk5 := Lib.hid hk5
    clear hP hQ hpre hk2 hk3 hk4 hk5 htl hpe hplen he ht
    go_enter Try.func23, Try.ntmps23
    go_wp2_with (go_at_call 21; refine HP.out.mono ?_; rintro e w1 ⟨a1, c1, rfl, h1, h2, hr1, hB1⟩; have HB1 := Lib.hid hB1; clear hr1 hB1 h1 h2)
    go_loopw [6] (fun i wr => toldI recs.length k w i wr) (fun i _ => (intOf i).toNat)
    case atStart => exact ⟨recs.length, by omega, rfl, .inl (by omega), HB1.out⟩
    case round =>
      obtain ⟨j, hj, rfl, hkj, hB⟩ := hrel
      have HB := Lib.hid hB
      have Hkj := Lib.hid hkj
      clear hB hkj
      by_cases h0 : 0 < j
      · obtain ⟨i, rfl⟩ : ∃ i, j = i + 1 := ⟨j - 1, by omega⟩
        have hd : decide ((0 : Int) < ((i + 1 : Nat) : Int)) = true := by simp; try omega
        have hic : (i : Int) ≤ cap := by omega
        have hC := HQ.out i
        have Hj := Lib.hid hj
        by_cases hik : i = k
        · have hir : i ≤ recs.length := by omega
          by_cases hk0 : k = 0
          · have hpp : rowsOf (recs.take i) = ([], 0) := by rw [hik, hk0]; rfl
            rw [hpp] at hC
            have HC := Lib.hid hC
            have Hik := Lib.hid hik
            have Hk0 := Lib.hid hk0
            clear hC hpp hik hk0 h0
            go_wp2_with (go_at_call 21; refine (HC.out _ hir HB.out).mono ?_; rintro e w2 ⟨a2, c2, rfl, h1, h2, hr2, hB2⟩; have HB2 := Lib.hid hB2; clear hr2 hB2 h1 h2)
            go_roundw
            case rel => exact ⟨i, by omega, by go_num, .inr ⟨by rw [Hik.out, Hk0.out], Hk0.out⟩, HB.out.trans (HB2.out.mono HB.out.size)⟩
            case measure => simp [intOf]; try omega
          · obtain ⟨p, hp⟩ := Hk4.out (.inr (by omega))
            have hpp : rowsOf (recs.take i) = (l ++ [p], 0) := by rw [hik, rowsOf_told, if_pos Hk3.out, hp]
            rw [hpp] at hC
            have hll := rowsOf_len (recs.take i)
            rw [hpp] at hll
            simp only [List.length_append, List.length_singleton, List.length_take] at hll
            have HC := Lib.hid hC
            clear hC hpp hik hk0 hp h0
            go_wp2_with (go_at_call 21; refine (HC.out _ hir HB.out).mono ?_; rintro e w2 ⟨a2, c2, rfl, h1, h2, hr2, hB2⟩; have hlc : (l ++ [p]).length = l.length + 1 := (by simp); simp only [hlc] at h1 ⊢; have hcc : (l.length : Int) ≤ c2 := (by omega); have hgg : decide ((0 : Int) < (l.length : Int) + 1) = true := (by simp); have hgg2 : decide ((0 : Int) < ((l.length + 1 : Nat) : Int)) = true := (by have : (0 : Int) < ((l.length + 1 : Nat) : Int) := (by omega); exact decide_eq_true this); have HB2 := Lib.hid hB2; have Hr2 := Lib.hid hr2; have H2 := Lib.hid h2; clear hr2 hB2 h2 hlc)
            go_ret2
            show RowsRet (l, er) w (.returned (.tuple #[.slice a2 l.length c2, .int .i64 (er : Nat)])) w2
            refine ⟨a2, c2, rfl, by show l.length ≤ c2; omega, H2.out, ?_, HB.out.trans (HB2.out.mono HB.out.size)⟩
            have := Hr2.out.take l.length
            rw [List.take_left] at this
            exact this.mono (fun b hb _ => Nat.le_trans HB.out.size hb)
        · obtain ⟨f, hf, hf0, hf20⟩ := Hpre.out i (by have := Hkj.out; omega) (by omega)
          rw [hf] at hC
          have hnf : ((f : Int) == 0) = false := by simp; omega
          have hir : i ≤ recs.length := by omega
          have HC := Lib.hid hC
          have hki : k + 1 ≤ i := by have := Hkj.out; omega
          clear hC hf hf0 hik h0
          go_wp2_with (go_at_call 21; refine (HC.out _ hir HB.out).mono ?_; rintro e w2 ⟨a2, c2, rfl, h1, h2, hr2, hB2⟩; have HB2 := Lib.hid hB2; clear hr2 hB2 h1 h2)
          go_roundw
          case rel => exact ⟨i, by omega, by go_num, .inl hki, HB.out.trans (HB2.out.mono HB.out.size)⟩
          case measure => simp [intOf]; try omega
      · obtain rfl : j = 0 := by omega
        have hl0 : l = [] := Hk5.out rfl (by have := Hkj.out; omega)
        subst hl0
        clear h0
        go_wp2_with fail
        go_ret2
        exact RowsRet.none rfl (HB.out.alloc HB.out.size _) (by simp [maxLen])
end Go.Proofs.Ytafbjkbdfdeacaa
