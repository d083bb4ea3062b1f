/- Texts merged into one: Sort4, Sort5, Sort6. -/
import Derived.Test.YtcklfffeimnfeaaGreatBx03
import Derived.Lib.BitFns
import Derived.Lib.Strings
import Derived.Lib.Small
import Derived.Lib.Walk
import Derived.Laws.Bits64
import Derived.Laws.Bits64b
import Derived.Laws.BitsAllLaws
set_option maxRecDepth 100000
set_option maxHeartbeats 12800000
set_option linter.unusedSimpArgs false
set_option linter.unusedVariables false
namespace Go.Proofs.YtcklfffeimnfeaaGreat
open Go.RowKit

theorem ss_go (d : Array Nat) (b i : Nat) (h : i < b) (hl : ltN d[i]! d[i - 1]! = false) : Sort.scanSorted ltN d b i = Sort.scanSorted ltN d b (i + 1) := by
  rw [Sort.scanSorted]; simp [h, hl]
theorem ss_stop (d : Array Nat) (b i : Nat) (h : ¬ i < b ∨ ltN d[i]! d[i - 1]! = true) : Sort.scanSorted ltN d b i = i := by
  rw [Sort.scanSorted]
  rcases h with h | h <;> simp [h]
theorem shd_go (j : Nat) (d : Array Nat) (hj : 1 ≤ j) (hl : ltN d[j]! d[j - 1]! = true) : Sort.shiftDown ltN j d = Sort.shiftDown ltN (j - 1) (Sort.swp d j (j - 1)) := by
  obtain ⟨k, rfl⟩ : ∃ k, j = k + 1 := ⟨j - 1, by omega⟩
  rw [Sort.shiftDown]
  simp only [Nat.add_sub_cancel] at hl ⊢
  simp [hl]
theorem shd_stop (j : Nat) (d : Array Nat) (h : j = 0 ∨ ltN d[j]! d[j - 1]! = false) : Sort.shiftDown ltN j d = d := by
  cases j with
  | zero => rw [Sort.shiftDown]
  | succ k =>
    rw [Sort.shiftDown]
    simp only [Nat.add_sub_cancel] at h
    rcases h with h | h
    · omega
    · simp [h]
theorem shu_go (b j : Nat) (d : Array Nat) (hj : j < b) (hl : ltN d[j]! d[j - 1]! = true) : Sort.shiftUp ltN b j d = Sort.shiftUp ltN b (j + 1) (Sort.swp d j (j - 1)) := by
  rw [Sort.shiftUp]; simp [hj, hl]
theorem shu_stop (b j : Nat) (d : Array Nat) (h : ¬ j < b ∨ ltN d[j]! d[j - 1]! = false) : Sort.shiftUp ltN b j d = d := by
  rw [Sort.shiftUp]
  rcases h with h | h
  · simp [h]
  · by_cases hj : j < b <;> simp [hj, h]
theorem pins_true (a b s i : Nat) (d : Array Nat) (hs : s < 5) (hK : Sort.scanSorted ltN d b i = b) : Sort.partialIns ltN a b (5 - s) i d = (d, true) := by
  rw [show 5 - s = (4 - s) + 1 by omega, Sort.partialIns]
  simp only [hK, if_true]
theorem pins_short (a b s i k : Nat) (d : Array Nat) (hs : s < 5) (hK : Sort.scanSorted ltN d b i = k) (hk : k ≠ b) (h50 : b - a < 50) : Sort.partialIns ltN a b (5 - s) i d = (d, false) := by
  rw [show 5 - s = (4 - s) + 1 by omega, Sort.partialIns]
  simp only [hK, if_neg hk, if_pos h50]
def fixD (a k : Nat) (d : Array Nat) : Array Nat := if k - a ≥ 2 then Sort.shiftDown ltN (k - 1) d else d
def fixU (b k : Nat) (d : Array Nat) : Array Nat := if b - k ≥ 2 then Sort.shiftUp ltN b (k + 1) d else d
theorem pins_go (a b s i k : Nat) (d : Array Nat) (hs : s < 5) (hK : Sort.scanSorted ltN d b i = k) (hk : k ≠ b) (h50 : ¬ b - a < 50) :
    Sort.partialIns ltN a b (5 - s) i d = Sort.partialIns ltN a b (5 - (s + 1)) k (fixU b k (fixD a k (Sort.swp d k (k - 1)))) := by
  rw [show 5 - s = (4 - s) + 1 by omega, Sort.partialIns]
  simp only [hK, if_neg hk, if_neg h50]
  rw [show 5 - (s + 1) = 4 - s by omega]
  rfl

def piI (w : World) (blk off a b : Nat) (d : Array Nat) (v1 v2 : Value) (wr : World) : Prop :=
  ∃ (i s n : Nat) (dk : Array Nat), v1 = .int .i64 i ∧ v2 = .int .i64 s ∧ s ≤ 5 ∧ a < i ∧ i ≤ b ∧ dk.size = d.size ∧ wr = rowW w blk off n dk ∧ Sort.partialIns ltN a b (5 - s) i dk = Sort.partialIns ltN a b 5 (a + 1) d
def ssI (w : World) (blk off b i : Nat) (dk : Array Nat) (v : Value) (wr : World) : Prop :=
  ∃ k n : Nat, v = .int .i64 k ∧ i ≤ k ∧ k ≤ b ∧ wr = rowW w blk off n dk ∧ Sort.scanSorted ltN dk b k = Sort.scanSorted ltN dk b i
def sdnI (w : World) (blk off k : Nat) (d d0 : Array Nat) (v : Value) (wr : World) : Prop :=
  ∃ (j n : Nat) (dj : Array Nat), v = .int .i64 j ∧ j ≤ k - 1 ∧ dj.size = d.size ∧ wr = rowW w blk off n dj ∧ Sort.shiftDown ltN j dj = Sort.shiftDown ltN (k - 1) d0
def supI (w : World) (blk off b k : Nat) (d d0 : Array Nat) (v : Value) (wr : World) : Prop :=
  ∃ (j n : Nat) (dj : Array Nat), v = .int .i64 j ∧ k + 1 ≤ j ∧ j ≤ b ∧ dj.size = d.size ∧ wr = rowW w blk off n dj ∧ Sort.shiftUp ltN b j dj = Sort.shiftUp ltN b (k + 1) d0
theorem pins32_any (blk off cap a b : Nat) (d : Array Nat) (w : World) (hH : Sort.Holds e32 w blk off d) (hab : a < b) (hb : b ≤ d.size) (hsz : d.size < 4611686018427387904) :
    Calls Tryz.prog 163 #[.slice (some ⟨blk, off, none⟩) d.size cap, .int .i64 a, .int .i64 b] w fun e w' =>
      e = .returned (.bool (Sort.partialInsertionSort ltN d a b).2) ∧ ∃ n, w' = rowW w blk off n (Sort.partialInsertionSort ltN d a b).1 := by
  have HH := Lib.hid hH
  clear hH
  go_enter Tryz.func163, Tryz.ntmps163
  go_wp2_with fail
  go_loopw [7, 8] (fun v1 v2 wr => piI w blk off a b d v1 v2 wr) (fun _ v2 _ => 5 - (intOf v2).toNat)
  case atStart => exact ⟨a + 1, 0, 0, d, by go_num, rfl, by omega, by omega, by omega, rfl, rowW_start HH.out, rfl⟩
  case round =>
    obtain ⟨i, s, n, dk, rfl, rfl, hs5, hai, hib, hsk, hwr, hO⟩ := hrel
    have HO := Lib.hid hO
    have HW0 := Lib.hid hwr
    clear hO hwr
    by_cases hs : s < 5
    · have hsz5 : decide ((s : Int) < 5) = true := decide_eq_true (by omega)
      go_wp2_with fail
      go_loopw [7] (fun v wr => ssI w blk off b i dk v wr) (fun v _ => b - (intOf v).toNat)
      case atStart => exact ⟨i, n, rfl, Nat.le_refl _, hib, HW0.out, rfl⟩
      case round =>
        obtain ⟨k, n2, rfl, hik, hkb, hw2, hS⟩ := hrel
        have HS := Lib.hid hS
        clear hS HW0
        obtain ⟨G, hG⟩ : ∃ G : Nat → Nat, ∀ t, G t = dk[t]! := ⟨fun t => dk[t]!, fun _ => rfl⟩
        have hcw : ∀ t, t < d.size → wr.cell? ⟨blk, off + t, none⟩ = some (.int .u32 ((G t : Nat) : Int)) := fun t ht => by rw [hw2, hG]; exact rowW_cell HH.out hsk ht
        have hfw : ∀ t, t < d.size → wr.frozen? ⟨blk, off + t, none⟩ = false := fun t ht => by rw [hw2]; exact rowW_frozen HH.out hsk ht
        have HW := Lib.hid hw2
        have HG := Lib.hid hG
        clear hw2 hG
        by_cases hkl : k < b
        · have hkz : decide (k < b) = true := decide_eq_true hkl
          have hke : ((k : Int) == (b : Int)) = false := by rw [beq_eq_false_iff_ne]; omega
          go_wp2_with fail
          go_quiet ((go_at_call 164; exact Calls.quiet_of_same (less32_any _ _ _)))
          go_wp2_with fail
          · have hl : (!ltN (G k) (G (k - 1))) = true := by assumption
            rw [Bool.not_eq_true', HG.out, HG.out] at hl
            go_roundw
            case rel => exact ⟨k + 1, n2 + nq, by go_num, by omega, by omega, by rw [HW.out]; exact rowW_drewN _, by rw [← HS.out, ss_go dk b k hkl hl]⟩
            case measure => simp [intOf]; omega
          · have hl : (!ltN (G k) (G (k - 1))) = false := by assumption
            rw [Bool.not_eq_false', HG.out, HG.out] at hl
            have HK := Lib.hid (HS.out.symm.trans (ss_stop dk b k (.inr hl)))
            have h50 : b - a < 50 := by omega
            go_wp2_with fail
            go_ret
            have hv : Sort.partialInsertionSort ltN d a b = (dk, false) := by
              unfold Sort.partialInsertionSort
              rw [← HO.out, pins_short a b s i k dk hs HK.out (by omega) h50]
            rw [hv]
            exact ⟨rfl, n2 + nq, by rw [HW.out]; exact rowW_drewN _⟩
          · have hl : (!ltN (G k) (G (k - 1))) = false := by assumption
            rw [Bool.not_eq_false', HG.out, HG.out] at hl
            have HK := Lib.hid (HS.out.symm.trans (ss_stop dk b k (.inr hl)))
            have h50 : ¬ b - a < 50 := by omega
            clear hl hkz HS hke
            go_wp2_with fail
            by_cases hka : 2 ≤ k - a
            · have hkaz : decide ((2 : Int) ≤ (k : Int) - (a : Int)) = true := decide_eq_true (by omega)
              go_region
              all_goals go_wp2_with fail
              repeat rw [HG.out]
              have hsw : ((wr.drewN (nq + 1)).setCell ⟨blk, off + k, none⟩ (.int .u32 ((dk[k - 1]! : Nat) : Int))).setCell ⟨blk, off + (k - 1), none⟩ (.int .u32 ((dk[k]! : Nat) : Int)) = rowW w blk off (n2 + (nq + 1)) (Sort.swp dk k (k - 1)) := rowW_swap HW.out (nq + 1) (by omega) (by omega)
              rw [hsw]
              obtain ⟨d0, hd0⟩ : ∃ d0, d0 = Sort.swp dk k (k - 1) := ⟨_, rfl⟩
              have hs0 : d0.size = d.size := by rw [hd0, swp_size]; exact hsk
              have HG0 := Lib.hid (pins_go a b s i k dk hs HK.out (by omega) h50)
              rw [← hd0] at HG0 ⊢
              clear hsw hd0 hcw hfw HW HG HK hsk
              go_loopw [9] (fun v wr => sdnI w blk off k d d0 v wr) (fun v _ => (intOf v).toNat)
              case atStart => exact ⟨k - 1, _, d0, by congr 1; omega, Nat.le_refl _, hs0, rfl, rfl⟩
              case round =>
                obtain ⟨j, n3, dd, rfl, hjk, hsd, hw3, hDn⟩ := hrel
                have HDn := Lib.hid hDn
                clear hDn
                by_cases hj : 1 ≤ j
                · have hjz : decide ((1 : Int) ≤ (j : Int)) = true := decide_eq_true (by omega)
                  obtain ⟨G, hG⟩ : ∃ G : Nat → Nat, ∀ t, G t = dd[t]! := ⟨fun t => dd[t]!, fun _ => rfl⟩
                  have hcw : ∀ t, t < d.size → wr.cell? ⟨blk, off + t, none⟩ = some (.int .u32 ((G t : Nat) : Int)) := fun t ht => by rw [hw3, hG]; exact rowW_cell HH.out hsd ht
                  have hfw : ∀ t, t < d.size → wr.frozen? ⟨blk, off + t, none⟩ = false := fun t ht => by rw [hw3]; exact rowW_frozen HH.out hsd ht
                  have HW := Lib.hid hw3
                  have HG := Lib.hid hG
                  clear hw3 hG
                  go_wp2_with fail
                  go_quiet ((go_at_call 164; exact Calls.quiet_of_same (less32_any _ _ _)))
                  obtain ⟨L, hL⟩ : ∃ L, L = ltN (G j) (G (j - 1)) := ⟨_, rfl⟩
                  rw [← hL]
                  have HL := Lib.hid (show L = ltN dd[j]! dd[j - 1]! by rw [hL, HG.out, HG.out])
                  clear hL
                  cases L
                  · have HD := Lib.hid (show fixD a k d0 = dd by unfold fixD; rw [if_pos hka, ← HDn.out, shd_stop j dd (.inr HL.out.symm)])
                    obtain ⟨n5, HW5⟩ : ∃ n5, Hid (wr.drewN nq = rowW w blk off n5 dd) := ⟨_, Lib.hid (by rw [HW.out]; exact rowW_drewN _)⟩
                    generalize wr.drewN nq = w5 at HW5 ⊢
                    clear hcw hfw HG HW HL HDn
                    by_cases hbk : 2 ≤ b - k
                    · have hbz : decide ((2 : Int) ≤ (b : Int) - (k : Int)) = true := decide_eq_true (by omega)
                      go_wp2_with fail
                      go_loopw [10] (fun v wr => supI w blk off b k d dd v wr) (fun v _ => b - (intOf v).toNat)
                      case atStart => exact ⟨k + 1, _, dd, by go_num, Nat.le_refl _, by omega, hsd, HW5.out, rfl⟩
                      case round =>
                        obtain ⟨j, n4, du, rfl, hkj, hjb, hsu, hw4, hU⟩ := hrel
                        have HU2 := Lib.hid hU
                        clear hU
                        by_cases hj : j < b
                        · have hjz : decide (j < b) = true := decide_eq_true hj
                          obtain ⟨G, hG⟩ : ∃ G : Nat → Nat, ∀ t, G t = du[t]! := ⟨fun t => du[t]!, fun _ => rfl⟩
                          have hcw : ∀ t, t < d.size → wr.cell? ⟨blk, off + t, none⟩ = some (.int .u32 ((G t : Nat) : Int)) := fun t ht => by rw [hw4, hG]; exact rowW_cell HH.out hsu ht
                          have hfw : ∀ t, t < d.size → wr.frozen? ⟨blk, off + t, none⟩ = false := fun t ht => by rw [hw4]; exact rowW_frozen HH.out hsu ht
                          have HW := Lib.hid hw4
                          have HG := Lib.hid hG
                          clear hw4 hG
                          go_wp2_with fail
                          go_quiet ((go_at_call 164; exact Calls.quiet_of_same (less32_any _ _ _)))
                          go_wp2_with fail
                          · have hl : (!ltN (G j) (G (j - 1))) = true := by assumption
                            rw [Bool.not_eq_true', HG.out, HG.out] at hl
                            have HU := Lib.hid (show fixU b k dd = du by unfold fixU; rw [if_pos hbk, ← HU2.out, shu_stop b j du (.inr hl)])
                            clear hl
                            go_wp2_with fail
                            go_roundw
                            case rel => exact ⟨k, s + 1, _, du, rfl, by go_num, by omega, by omega, by omega, hsu, (by rw [HW.out]; exact rowW_drewN _), by rw [← HO.out, HG0.out, HD.out, HU.out]⟩
                            case measure => simp [intOf]; omega
                          · have hl : (!ltN (G j) (G (j - 1))) = false := by assumption
                            rw [Bool.not_eq_false', HG.out, HG.out] at hl
                            go_region
                            all_goals go_wp2_with fail
                            go_roundw
                            case rel =>
                              refine ⟨j + 1, n4 + (nq + 1), Sort.swp du j (j - 1), by go_num, by omega, by omega, by rw [swp_size]; exact hsu, ?_, ?_⟩
                              · repeat rw [HG.out]
                                exact rowW_swap HW.out (nq + 1) (by omega) (by omega)
                              · rw [← HU2.out, shu_go b j du hj hl]
                            case measure => simp [intOf]; omega
                        · have hjz : decide (j < b) = false := decide_eq_false hj
                          have HU := Lib.hid (show fixU b k dd = du by unfold fixU; rw [if_pos hbk, ← HU2.out, shu_stop b j du (.inl hj)])
                          have HW := Lib.hid hw4
                          clear hw4
                          go_wp2_with fail
                          go_roundw
                          case rel => exact ⟨k, s + 1, _, du, rfl, by go_num, by omega, by omega, by omega, hsu, HW.out, by rw [← HO.out, HG0.out, HD.out, HU.out]⟩
                          case measure => simp [intOf]; omega
                    · have hbz : decide ((2 : Int) ≤ (b : Int) - (k : Int)) = false := decide_eq_false (by omega)
                      have HU := Lib.hid (show fixU b k dd = dd by unfold fixU; rw [if_neg (by omega)])
                      go_wp2_with fail
                      go_roundw
                      case rel => exact ⟨k, s + 1, _, dd, rfl, by go_num, by omega, by omega, by omega, hsd, HW5.out, by rw [← HO.out, HG0.out, HD.out, HU.out]⟩
                      case measure => simp [intOf]; omega
                  · go_wp2_with fail
                    go_region
                    all_goals go_wp2_with fail
                    go_roundw
                    case rel =>
                      refine ⟨j - 1, n3 + (nq + 1), Sort.swp dd j (j - 1), by congr 1; omega, by omega, by rw [swp_size]; exact hsd, ?_, ?_⟩
                      · repeat rw [HG.out]
                        exact rowW_swap HW.out (nq + 1) (by omega) (by omega)
                      · rw [← HDn.out, shd_go j dd hj HL.out.symm]
                    case measure => simp [intOf]; omega
                · have hjz : decide ((1 : Int) ≤ (j : Int)) = false := decide_eq_false (by omega)
                  have HD := Lib.hid (show fixD a k d0 = dd by unfold fixD; rw [if_pos hka, ← HDn.out, shd_stop j dd (.inl (by omega))])
                  have HW5 := Lib.hid hw3
                  clear hw3 HDn
                  by_cases hbk : 2 ≤ b - k
                  · have hbz : decide ((2 : Int) ≤ (b : Int) - (k : Int)) = true := decide_eq_true (by omega)
                    go_wp2_with fail
                    go_loopw [10] (fun v wr => supI w blk off b k d dd v wr) (fun v _ => b - (intOf v).toNat)
                    case atStart => exact ⟨k + 1, _, dd, by go_num, Nat.le_refl _, by omega, hsd, HW5.out, rfl⟩
                    case round =>
                      obtain ⟨j, n4, du, rfl, hkj, hjb, hsu, hw4, hU⟩ := hrel
                      have HU2 := Lib.hid hU
                      clear hU
                      by_cases hj : j < b
                      · have hjz : decide (j < b) = true := decide_eq_true hj
                        obtain ⟨G, hG⟩ : ∃ G : Nat → Nat, ∀ t, G t = du[t]! := ⟨fun t => du[t]!, fun _ => rfl⟩
                        have hcw : ∀ t, t < d.size → wr.cell? ⟨blk, off + t, none⟩ = some (.int .u32 ((G t : Nat) : Int)) := fun t ht => by rw [hw4, hG]; exact rowW_cell HH.out hsu ht
                        have hfw : ∀ t, t < d.size → wr.frozen? ⟨blk, off + t, none⟩ = false := fun t ht => by rw [hw4]; exact rowW_frozen HH.out hsu ht
                        have HW := Lib.hid hw4
                        have HG := Lib.hid hG
                        clear hw4 hG
                        go_wp2_with fail
                        go_quiet ((go_at_call 164; exact Calls.quiet_of_same (less32_any _ _ _)))
                        go_wp2_with fail
                        · have hl : (!ltN (G j) (G (j - 1))) = true := by assumption
                          rw [Bool.not_eq_true', HG.out, HG.out] at hl
                          have HU := Lib.hid (show fixU b k dd = du by unfold fixU; rw [if_pos hbk, ← HU2.out, shu_stop b j du (.inr hl)])
                          clear hl
                          go_wp2_with fail
                          go_roundw
                          case rel => exact ⟨k, s + 1, _, du, rfl, by go_num, by omega, by omega, by omega, hsu, (by rw [HW.out]; exact rowW_drewN _), by rw [← HO.out, HG0.out, HD.out, HU.out]⟩
                          case measure => simp [intOf]; omega
                        · have hl : (!ltN (G j) (G (j - 1))) = false := by assumption
                          rw [Bool.not_eq_false', HG.out, HG.out] at hl
                          go_region
                          all_goals go_wp2_with fail
                          go_roundw
                          case rel =>
                            refine ⟨j + 1, n4 + (nq + 1), Sort.swp du j (j - 1), by go_num, by omega, by omega, by rw [swp_size]; exact hsu, ?_, ?_⟩
                            · repeat rw [HG.out]
                              exact rowW_swap HW.out (nq + 1) (by omega) (by omega)
                            · rw [← HU2.out, shu_go b j du hj hl]
                          case measure => simp [intOf]; omega
                      · have hjz : decide (j < b) = false := decide_eq_false hj
                        have HU := Lib.hid (show fixU b k dd = du by unfold fixU; rw [if_pos hbk, ← HU2.out, shu_stop b j du (.inl hj)])
                        have HW := Lib.hid hw4
                        clear hw4
                        go_wp2_with fail
                        go_roundw
                        case rel => exact ⟨k, s + 1, _, du, rfl, by go_num, by omega, by omega, by omega, hsu, HW.out, by rw [← HO.out, HG0.out, HD.out, HU.out]⟩
                        case measure => simp [intOf]; omega
                  · have hbz : decide ((2 : Int) ≤ (b : Int) - (k : Int)) = false := decide_eq_false (by omega)
                    have HU := Lib.hid (show fixU b k dd = dd by unfold fixU; rw [if_neg (by omega)])
                    go_wp2_with fail
                    go_roundw
                    case rel => exact ⟨k, s + 1, _, dd, rfl, by go_num, by omega, by omega, by omega, hsd, HW5.out, by rw [← HO.out, HG0.out, HD.out, HU.out]⟩
                    case measure => simp [intOf]; omega
            · have hkaz : decide ((2 : Int) ≤ (k : Int) - (a : Int)) = false := decide_eq_false (by omega)
              go_region
              repeat rw [HG.out]
              have hsw : ((wr.drewN (nq + 1)).setCell ⟨blk, off + k, none⟩ (.int .u32 ((dk[k - 1]! : Nat) : Int))).setCell ⟨blk, off + (k - 1), none⟩ (.int .u32 ((dk[k]! : Nat) : Int)) = rowW w blk off (n2 + (nq + 1)) (Sort.swp dk k (k - 1)) := rowW_swap HW.out (nq + 1) (by omega) (by omega)
              rw [hsw]
              obtain ⟨d0, hd0⟩ : ∃ d0, d0 = Sort.swp dk k (k - 1) := ⟨_, rfl⟩
              have hs0 : d0.size = d.size := by rw [hd0, swp_size]; exact hsk
              have HG0 := Lib.hid (pins_go a b s i k dk hs HK.out (by omega) h50)
              rw [← hd0] at HG0 ⊢
              clear hsw hd0 hcw hfw HW HG HK hsk
              obtain ⟨dd, rfl⟩ : ∃ dd, dd = d0 := ⟨_, rfl⟩
              have HD := Lib.hid (show fixD a k dd = dd by unfold fixD; rw [if_neg (by omega)])
              have hsd := hs0
              by_cases hbk : 2 ≤ b - k
              · have hbz : decide ((2 : Int) ≤ (b : Int) - (k : Int)) = true := decide_eq_true (by omega)
                go_wp2_with fail
                go_loopw [10] (fun v wr => supI w blk off b k d dd v wr) (fun v _ => b - (intOf v).toNat)
                case atStart => exact ⟨k + 1, _, dd, by go_num, Nat.le_refl _, by omega, hsd, rfl, rfl⟩
                case round =>
                  obtain ⟨j, n4, du, rfl, hkj, hjb, hsu, hw4, hU⟩ := hrel
                  have HU2 := Lib.hid hU
                  clear hU
                  by_cases hj : j < b
                  · have hjz : decide (j < b) = true := decide_eq_true hj
                    obtain ⟨G, hG⟩ : ∃ G : Nat → Nat, ∀ t, G t = du[t]! := ⟨fun t => du[t]!, fun _ => rfl⟩
                    have hcw : ∀ t, t < d.size → wr.cell? ⟨blk, off + t, none⟩ = some (.int .u32 ((G t : Nat) : Int)) := fun t ht => by rw [hw4, hG]; exact rowW_cell HH.out hsu ht
                    have hfw : ∀ t, t < d.size → wr.frozen? ⟨blk, off + t, none⟩ = false := fun t ht => by rw [hw4]; exact rowW_frozen HH.out hsu ht
                    have HW := Lib.hid hw4
                    have HG := Lib.hid hG
                    clear hw4 hG
                    go_wp2_with fail
                    go_quiet ((go_at_call 164; exact Calls.quiet_of_same (less32_any _ _ _)))
                    go_wp2_with fail
                    · have hl : (!ltN (G j) (G (j - 1))) = true := by assumption
                      rw [Bool.not_eq_true', HG.out, HG.out] at hl
                      have HU := Lib.hid (show fixU b k dd = du by unfold fixU; rw [if_pos hbk, ← HU2.out, shu_stop b j du (.inr hl)])
                      clear hl
                      go_wp2_with fail
                      go_roundw
                      case rel => exact ⟨k, s + 1, _, du, rfl, by go_num, by omega, by omega, by omega, hsu, (by rw [HW.out]; exact rowW_drewN _), by rw [← HO.out, HG0.out, HD.out, HU.out]⟩
                      case measure => simp [intOf]; omega
                    · have hl : (!ltN (G j) (G (j - 1))) = false := by assumption
                      rw [Bool.not_eq_false', HG.out, HG.out] at hl
                      go_region
                      all_goals go_wp2_with fail
                      go_roundw
                      case rel =>
                        refine ⟨j + 1, n4 + (nq + 1), Sort.swp du j (j - 1), by go_num, by omega, by omega, by rw [swp_size]; exact hsu, ?_, ?_⟩
                        · repeat rw [HG.out]
                          exact rowW_swap HW.out (nq + 1) (by omega) (by omega)
                        · rw [← HU2.out, shu_go b j du hj hl]
                      case measure => simp [intOf]; omega
                  · have hjz : decide (j < b) = false := decide_eq_false hj
                    have HU := Lib.hid (show fixU b k dd = du by unfold fixU; rw [if_pos hbk, ← HU2.out, shu_stop b j du (.inl hj)])
                    have HW := Lib.hid hw4
                    clear hw4
                    go_wp2_with fail
                    go_roundw
                    case rel => exact ⟨k, s + 1, _, du, rfl, by go_num, by omega, by omega, by omega, hsu, HW.out, by rw [← HO.out, HG0.out, HD.out, HU.out]⟩
                    case measure => simp [intOf]; omega
              · have hbz : decide ((2 : Int) ≤ (b : Int) - (k : Int)) = false := decide_eq_false (by omega)
                have HU := Lib.hid (show fixU b k dd = dd by unfold fixU; rw [if_neg (by omega)])
                go_wp2_with fail
                go_roundw
                case rel => exact ⟨k, s + 1, _, dd, rfl, by go_num, by omega, by omega, by omega, hsd, rfl, by rw [← HO.out, HG0.out, HD.out, HU.out]⟩
                case measure => simp [intOf]; omega
        · have hkz : decide (k < b) = false := decide_eq_false hkl
          have hke : ((k : Int) == (b : Int)) = true := by rw [beq_iff_eq]; omega
          have HK := Lib.hid (HS.out.symm.trans (ss_stop dk b k (.inl hkl)))
          go_wp2_with fail
          go_quiet ((go_at_call 164; exact Calls.quiet_of_same (less32_any _ _ _)))
          go_wp2_with fail
          go_ret
          have hv : Sort.partialInsertionSort ltN d a b = (dk, true) := by
            unfold Sort.partialInsertionSort
            rw [← HO.out, pins_true a b s i dk hs (by rw [HK.out]; omega)]
          rw [hv]
          exact ⟨rfl, n2 + nq, by rw [HW.out]; exact rowW_drewN _⟩
    · obtain rfl : s = 5 := by omega
      go_wp2_with fail
      go_ret
      have hv : Sort.partialInsertionSort ltN d a b = (dk, false) := by
        unfold Sort.partialInsertionSort
        rw [← HO.out]; rfl
      rw [hv]
      exact ⟨rfl, n, HW0.out⟩
end Go.Proofs.YtcklfffeimnfeaaGreat

namespace Go.Proofs.YtcklfffeimnfeaaGreat
open Go.RowKit

/-- of what was there only blocks of fp may have turned -/
structure OnlyB (fp : Nat → Prop) (W W' : World) : Prop where
  os : W'.os = W.os
  tape : W'.tape = W.tape
  output : W'.output = W.output
  size : W.heap.size ≤ W'.heap.size
  same : ∀ k, k < W.heap.size → ¬ fp k → W'.heap[k]? = W.heap[k]?
theorem OnlyB.refl (fp : Nat → Prop) (W : World) : OnlyB fp W W := ⟨rfl, rfl, rfl, Nat.le_refl _, fun _ _ _ => rfl⟩
theorem OnlyB.trans {fp fp' : Nat → Prop} {A B C : World} (h : OnlyB fp A B) (k : OnlyB fp' B C) (hf : ∀ i, i < A.heap.size → fp' i → fp i) : OnlyB fp A C :=
  ⟨k.os.trans h.os, k.tape.trans h.tape, k.output.trans h.output, Nat.le_trans h.size k.size,
    fun i hi hn => (k.same i (Nat.lt_of_lt_of_le hi h.size) (fun e => hn (hf i hi e))).trans (h.same i hi hn)⟩
theorem OnlyB.drewN {fp : Nat → Prop} {A B : World} (h : OnlyB fp A B) (n : Nat) : OnlyB fp A (B.drewN n) := ⟨h.os, h.tape, h.output, h.size, h.same⟩
theorem OnlyB.drew {fp : Nat → Prop} {A B : World} (h : OnlyB fp A B) : OnlyB fp A B.drew := ⟨h.os, h.tape, h.output, h.size, h.same⟩
theorem OnlyB.alloc {fp : Nat → Prop} {A B : World} (h : OnlyB fp A B) (o : Obj) : OnlyB fp A (B.alloc o) :=
  ⟨h.os, h.tape, h.output, Nat.le_trans h.size (by simp), fun k hk hn => (Below.heap_alloc B o k (Nat.lt_of_lt_of_le hk h.size)).trans (h.same k hk hn)⟩
theorem OnlyB.setCell {fp : Nat → Prop} {A B : World} (h : OnlyB fp A B) {p : Addr} (hp : p.block < A.heap.size → fp p.block) (v : Value) : OnlyB fp A (B.setCell p v) :=
  ⟨h.os, h.tape, h.output, by simpa [World.setCell] using h.size, fun k hk hn => (Below.heap_setCell B p v k (fun e => hn (by subst e; exact hp hk))).trans (h.same k hk hn)⟩
theorem OnlyB.cell {fp : Nat → Prop} {A B : World} (h : OnlyB fp A B) {b : Nat} (hb : b < A.heap.size) (hn : ¬ fp b) (o : Nat) : B.cell? ⟨b, o, none⟩ = A.cell? ⟨b, o, none⟩ := World.cell?_of_block (w := A) (h.same b hb hn)
theorem OnlyB.frozen {fp : Nat → Prop} {A B : World} (h : OnlyB fp A B) {b : Nat} (hb : b < A.heap.size) (hn : ¬ fp b) (o : Nat) : B.frozen? ⟨b, o, none⟩ = A.frozen? ⟨b, o, none⟩ := World.frozen?_of_block (w := A) (h.same b hb hn)
theorem OnlyB.holds {fp : Nat → Prop} {A B : World} (h : OnlyB fp A B) {blk off : Nat} {d : Array Nat} (hH : Sort.Holds e32 A blk off d) (hb : blk < A.heap.size) (hn : ¬ fp blk) : Sort.Holds e32 B blk off d :=
  fun j hj => ⟨(h.cell hb hn _).trans (hH j hj).1, (h.frozen hb hn _).trans (hH j hj).2⟩
theorem rowW_only (w : World) (blk off n : Nat) (d : Array Nat) : OnlyB (fun k => k = blk) w (rowW w blk off n d) := by
  refine ⟨rfl, rfl, rfl, by simp [rowW], fun k _ hn => ?_⟩
  unfold rowW Sort.putRow Sort.mapBlock
  show (w.heap.modify blk _)[k]? = _
  rw [Array.getElem?_modify, if_neg (fun e => hn e.symm)]

/-- the row holds d now, else nothing old has turned -/
def RowS (w : World) (blk off : Nat) (d : Array Nat) (w' : World) : Prop := Sort.Holds e32 w' blk off d ∧ OnlyB (fun k => k = blk) w w'
theorem rowW_rowS {w : World} {blk off n : Nat} {d dk : Array Nat} (h : Sort.Holds e32 w blk off d) (hs : dk.size = d.size) : RowS w blk off dk (rowW w blk off n dk) := ⟨rowW_holds h hs, rowW_only _ _ _ _ _⟩
theorem RowS.trans {a b c : World} {blk off : Nat} {d d' : Array Nat} (h : RowS a blk off d b) (k : RowS b blk off d' c) : RowS a blk off d' c := ⟨k.1, h.2.trans k.2 (fun _ _ e => e)⟩

/-! ### bits.Len of small numbers -/
theorem aux_two_pow : ∀ (f x : Nat), 0 < x → 2 ^ Lib.bitLenAux f x ≤ 2 * x
  | 0, x, h => by simp [Lib.bitLenAux]; omega
  | f + 1, x, h => by
    rw [Lib.bitLenAux, if_neg (by omega)]
    rcases Nat.eq_zero_or_pos (x / 2) with h0 | h0
    · rw [h0]
      have : Lib.bitLenAux f 0 = 0 := by cases f <;> simp [Lib.bitLenAux]
      rw [this]; omega
    · have ih := aux_two_pow f (x / 2) h0
      rw [Nat.pow_add]; omega
theorem len_two_pow (x : Nat) (h : 0 < x) : 2 ^ Lib.bitLen x ≤ 2 * x := aux_two_pow 64 x h
theorem tab8_size : Lib.len8tab.size = 256 := by decide +kernel
theorem tab8 : ∀ n : Fin 256, (Lib.len8tab.get n.val (by rw [tab8_size]; exact n.isLt)).toNat = Lib.bitLen n.val := by decide +kernel
theorem tab8_of {n : Nat} (h : n < 256) (h' : n < Lib.len8tab.size) : (Lib.len8tab[n]'h').toNat = Lib.bitLen n := tab8 ⟨n, h⟩
theorem len64_any (n : Nat) (hn : n < 65536) (w : World) : Calls Tryz.prog 103 #[.int .u64 (n : Nat)] w fun e w' => e = .returned (.int .i64 (Lib.bitLen n : Nat)) ∧ w' = w := by
  have h1 : decide ((4294967296 : Int) ≤ (n : Int)) = false := decide_eq_false (by omega)
  have h2 : decide ((65536 : Int) ≤ (n : Int)) = false := decide_eq_false (by omega)
  by_cases h : n < 256
  · have h3 : decide ((256 : Int) ≤ (n : Int)) = false := decide_eq_false (by omega)
    go_enter Tryz.func103, Tryz.ntmps103
    go_wp2
    go_ret
    have h8 := Lib.bitLen_le n 8 (by omega) h
    refine ⟨congrArg Ending.returned (congrArg (Value.int IntKind.i64) ?_), rfl⟩
    rw [tab8_of h]
    simp [wrap64]; omega
  · have h3 : decide ((256 : Int) ≤ (n : Int)) = true := decide_eq_true (by omega)
    have hb0 : (0 : Int) ≤ (n : Int) / 256 := by omega
    have hb1 : (n : Int) / 256 < (Lib.len8tab.size : Int) := by rw [tab8_size]; omega
    go_enter Tryz.func103, Tryz.ntmps103
    go_wp2
    go_ret
    have h8 := Lib.bitLen_le (n / 256) 8 (by omega) (by omega)
    have h9 := Lib.bitLen_shift8 n (by omega) (by omega)
    refine ⟨congrArg Ending.returned (congrArg (Value.int IntKind.i64) ?_), rfl⟩
    rw [tab8_of (n := n / 256) (by omega)]
    simp [wrap64]; omega
theorem len_any (n : Nat) (hn : n < 65536) (w : World) : Calls Tryz.prog 63 #[.int .u64 (n : Nat)] w fun e w' => e = .returned (.int .i64 (Lib.bitLen n : Nat)) ∧ w' = w := by
  go_enter Tryz.func63, Tryz.ntmps63
  go_wp2_with (go_at_call 103; refine (len64_any _ hn _).mono ?_; rintro e w' ⟨rfl, rfl⟩)
  go_ret
  exact ⟨rfl, rfl⟩
theorem pow2_any (n : Nat) (h0 : 0 < n) (hn : n < 65536) (w : World) : Calls Tryz.prog 134 #[.int .i64 (n : Nat)] w fun e w' => e = .returned (.int .u64 ((2 ^ Lib.bitLen n : Nat) : Int)) ∧ w' = w := by
  have hl := len_two_pow n h0
  have h8 := Lib.bitLen_le n 16 (by omega) (by omega)
  have hw : IntKind.u64.wrap (n : Int) = (n : Int) := by simp [IntKind.wrap, IntKind.bits, IntKind.signed]; omega
  have HLN := Lib.hid (fun w => len_any n hn w)
  have hp : (2 : Nat) ^ Lib.bitLen n ≤ 131072 := by omega
  obtain ⟨L, hL⟩ : ∃ L, L = Lib.bitLen n := ⟨_, rfl⟩
  rw [← hL] at HLN hl h8 hp ⊢
  have hpw : IntKind.u64.wrap ((2 : Int) ^ L) = ((2 ^ L : Nat) : Int) := by
    rw [IntKind.wrap_u64, show ((2 : Int) ^ L) = ((2 ^ L : Nat) : Int) by push_cast; rfl]
    clear hL
    generalize (2 : Nat) ^ L = P at hp
    omega
  clear hL
  go_enter Tryz.func134, Tryz.ntmps134
  go_wp2_with (go_at_call 63; refine (HLN.out _).mono ?_; rintro e w' ⟨rfl, rfl⟩)
  go_ret
  exact ⟨rfl, rfl⟩

/-! ### three numbers ordered: which are handed back -/
def CntI (w : World) (sb s : Nat) (w' : World) : Prop := ∃ s' : Nat, s' ≤ s ∧ w'.cell? ⟨sb, 0, none⟩ = some (.int .i64 (s' : Nat)) ∧ w'.frozen? ⟨sb, 0, none⟩ = false ∧ OnlyB (fun k => k = sb) w w'
def OrdR (a b : Nat) (w : World) (sb s : Nat) (e : Ending) (w' : World) : Prop :=
  ∃ x y : Nat, e = .returned (.tuple #[.int .i64 (x : Nat), .int .i64 (y : Nat)]) ∧ (x = a ∧ y = b ∨ x = b ∧ y = a) ∧ CntI w sb (s + 1) w'
theorem ord32_any (blk off cap a b sb s : Nat) (d : Array Nat) (w : World) (hH : Sort.Holds e32 w blk off d) (ha : a < d.size) (hb : b < d.size) (hsz : d.size < 65536)
    (hc : w.cell? ⟨sb, 0, none⟩ = some (.int .i64 (s : Nat))) (hf : w.frozen? ⟨sb, 0, none⟩ = false) (hs : s ≤ 1000) :
    Calls Tryz.prog 173 #[.slice (some ⟨blk, off, none⟩) d.size cap, .int .i64 a, .int .i64 b, .pointer (some ⟨sb, 0, none⟩)] w (OrdR a b w sb s) := by
  obtain ⟨G, hG⟩ : ∃ G : Nat → Nat, ∀ t, G t = d[t]! := ⟨fun t => d[t]!, fun _ => rfl⟩
  have hcw : ∀ t, t < d.size → w.cell? ⟨blk, off + t, none⟩ = some (.int .u32 ((G t : Nat) : Int)) := fun t ht => by rw [hG]; exact (hH t ht).1
  clear hH hG
  go_enter Tryz.func173, Tryz.ntmps173
  go_wp2_with fail
  go_quiet ((go_at_call 164; exact Calls.quiet_of_same (less32_any _ _ _)))
  obtain ⟨L, hL⟩ : ∃ L, L = ltN (G b) (G a) := ⟨_, rfl⟩
  rw [← hL]
  clear hL
  cases L
  · go_wp2_with fail
    go_ret2
    exact ⟨a, b, rfl, .inl ⟨rfl, rfl⟩, s, by omega, hc, hf, (OnlyB.refl _ _).drewN _⟩
  · go_wp2_with fail
    go_ret2
    exact ⟨b, a, rfl, .inr ⟨rfl, rfl⟩, s + 1, by omega, by simp [go_sem, hc], by simp [go_sem, hf], ((OnlyB.refl (fun k => k = sb) _).drewN _).setCell (p := ⟨sb, 0, none⟩) (fun _ => rfl) _⟩
theorem ord_P {P : Nat → Prop} {x y a b : Nat} (h : x = a ∧ y = b ∨ x = b ∧ y = a) (ha : P a) (hb : P b) : P x ∧ P y := by
  rcases h with ⟨rfl, rfl⟩ | ⟨rfl, rfl⟩
  · exact ⟨ha, hb⟩
  · exact ⟨hb, ha⟩
def MedR (P : Nat → Prop) (w : World) (sb s : Nat) (e : Ending) (w' : World) : Prop := ∃ x : Nat, e = .returned (.int .i64 (x : Nat)) ∧ P x ∧ CntI w sb (s + 3) w'
theorem med32_any (P : Nat → Prop) (blk off cap a b c sb s : Nat) (d : Array Nat) (w : World) (hH : Sort.Holds e32 w blk off d) (hblk : blk < w.heap.size) (hne : blk ≠ sb) (hP : ∀ x, P x → x < d.size) (ha : P a) (hb : P b) (hc : P c) (hsz : d.size < 65536)
    (hcs : w.cell? ⟨sb, 0, none⟩ = some (.int .i64 (s : Nat))) (hf : w.frozen? ⟨sb, 0, none⟩ = false) (hs : s ≤ 900) :
    Calls Tryz.prog 171 #[.slice (some ⟨blk, off, none⟩) d.size cap, .int .i64 a, .int .i64 b, .int .i64 c, .pointer (some ⟨sb, 0, none⟩)] w (MedR P w sb s) := by
  have HO := Lib.hid (fun (x y t : Nat) (W : World) (hx : P x) (hy : P y) (hk : Sort.Holds e32 W blk off d) (h1 : W.cell? ⟨sb, 0, none⟩ = some (.int .i64 (t : Nat))) (h2 : W.frozen? ⟨sb, 0, none⟩ = false) (h3 : t ≤ 1000) =>
    ord32_any blk off cap x y sb t d W hk (hP x hx) (hP y hy) hsz h1 h2 h3)
  have HP := Lib.hid hP
  have HH := Lib.hid hH
  have HA := Lib.hid ha
  have HB := Lib.hid hb
  have HC := Lib.hid hc
  have HS := Lib.hid (And.intro hcs hf)
  clear hP hH ha hb hc hcs hf
  go_enter Tryz.func171, Tryz.ntmps171
  go_wp2_with fail
  refine (HO.out a b s _ HA.out HB.out HH.out HS.out.1 HS.out.2 (by omega)).mono ?_
  rintro e w1 ⟨x, y, rfl, hxy, s1, hs1, hc1, hf1, ho1⟩
  obtain ⟨hPx, hPy⟩ := ord_P hxy HA.out HB.out
  have HPx := Lib.hid hPx
  have HPy := Lib.hid hPy
  have HS1 := Lib.hid (And.intro hc1 hf1)
  have HO1 := Lib.hid ho1
  have HH1 := Lib.hid (ho1.holds HH.out hblk hne)
  clear hPx hPy hc1 hf1 ho1 hxy
  go_wp2_with fail
  refine (HO.out y c s1 _ HPy.out HC.out HH1.out HS1.out.1 HS1.out.2 (by omega)).mono ?_
  rintro e w2 ⟨y2, z, rfl, hyz, s2, hs2, hc2, hf2, ho2⟩
  have hPy2 := (ord_P hyz HPy.out HC.out).1
  have HPy2 := Lib.hid hPy2
  have HS2 := Lib.hid (And.intro hc2 hf2)
  have HO2 := Lib.hid (HO1.out.trans ho2 (fun _ _ e => e))
  have HH2 := Lib.hid (ho2.holds HH1.out (Nat.lt_of_lt_of_le hblk HO1.out.size) hne)
  clear hPy2 hc2 hf2 ho2 hyz
  go_wp2_with fail
  refine (HO.out x y2 s2 _ HPx.out HPy2.out HH2.out HS2.out.1 HS2.out.2 (by omega)).mono ?_
  rintro e w3 ⟨x3, y3, rfl, hxy3, s3, hs3, hc3, hf3, ho3⟩
  have hPy3 := (ord_P hxy3 HPx.out HPy2.out).2
  have HPy3 := Lib.hid hPy3
  have HO3 := Lib.hid (HO2.out.trans ho3 (fun _ _ e => e))
  have HS3 := Lib.hid (And.intro hc3 hf3)
  clear hPy3 hc3 hf3 ho3 hxy3
  go_wp2_with fail
  go_ret
  exact ⟨y3, rfl, HPy3.out, s3, by omega, HS3.out.1, HS3.out.2, HO3.out⟩
theorem medA32_any (P : Nat → Prop) (blk off cap a sb s : Nat) (d : Array Nat) (w : World) (hH : Sort.Holds e32 w blk off d) (hblk : blk < w.heap.size) (hne : blk ≠ sb) (hP : ∀ x, P x → x < d.size) (ha0 : P (a - 1)) (ha : P a) (ha2 : P (a + 1)) (ha1 : 1 ≤ a) (hsz : d.size < 65536)
    (hcs : w.cell? ⟨sb, 0, none⟩ = some (.int .i64 (s : Nat))) (hf : w.frozen? ⟨sb, 0, none⟩ = false) (hs : s ≤ 900) :
    Calls Tryz.prog 170 #[.slice (some ⟨blk, off, none⟩) d.size cap, .int .i64 a, .pointer (some ⟨sb, 0, none⟩)] w (MedR P w sb s) := by
  have HM := Lib.hid (med32_any P blk off cap (a - 1) a (a + 1) sb s d w hH hblk hne hP ha0 ha ha2 hsz hcs hf hs)
  have hlt := hP _ ha2
  clear hH hP ha0 ha ha2 hcs hf
  go_enter Tryz.func170, Tryz.ntmps170
  go_wp2_with fail
  rw [show ((a : Int) - 1) = ((a - 1 : Nat) : Int) by omega, show ((a : Int) + 1) = ((a + 1 : Nat) : Int) by omega]
  refine HM.out.mono ?_
  rintro e w1 ⟨x, rfl, hx, hc⟩
  have HX := Lib.hid (And.intro hx hc)
  clear hx hc
  go_wp2_with fail
  go_ret
  exact ⟨x, rfl, HX.out.1, HX.out.2⟩

/-! ### the pivot -/
def PivR (a b : Nat) (w : World) (e : Ending) (w' : World) : Prop :=
  ∃ (p : Nat) (h : Nat), e = .returned (.tuple #[.int .i64 (p : Nat), .int .i64 (h : Nat)]) ∧ a ≤ p ∧ p < b ∧ (h = 0 ∨ h = 1 ∨ h = 2) ∧ OnlyB (fun _ => False) w w'
theorem OnlyB.under {A B C : World} (h : OnlyB (fun _ => False) A B) (k : OnlyB (fun k => k = A.heap.size) B C) : OnlyB (fun _ => False) A C := h.trans k (fun i hi e => by omega)
theorem piv32_any (blk off cap a b : Nat) (d : Array Nat) (w : World) (hH : Sort.Holds e32 w blk off d) (hblk : blk < w.heap.size) (hab : a < b) (hb : b ≤ d.size) (hsz : d.size < 65536) :
    Calls Tryz.prog 161 #[.slice (some ⟨blk, off, none⟩) d.size cap, .int .i64 a, .int .i64 b] w (PivR a b w) := by
  have hne : blk ≠ w.heap.size := by omega
  have ho0 : OnlyB (fun _ => False) w (w.alloc (.cells #[.int .i64 0] 3)) := (OnlyB.refl _ _).alloc _
  have hH0 := ho0.holds hH hblk (by simp)
  have HO0 := Lib.hid ho0
  have HH0 := Lib.hid hH0
  have HM := Lib.hid (fun (x y z t : Nat) (W : World) (hx : a ≤ x ∧ x < b) (hy : a ≤ y ∧ y < b) (hz : a ≤ z ∧ z < b) (hk : Sort.Holds e32 W blk off d) (h0 : blk < W.heap.size) (h1 : W.cell? ⟨w.heap.size, 0, none⟩ = some (.int .i64 (t : Nat))) (h2 : W.frozen? ⟨w.heap.size, 0, none⟩ = false) (h3 : t ≤ 900) =>
    med32_any (fun x => a ≤ x ∧ x < b) blk off cap x y z w.heap.size t d W hk h0 hne (fun x hx => by omega) hx hy hz hsz h1 h2 h3)
  have HMA := Lib.hid (fun (x t : Nat) (W : World) (hx0 : a ≤ x - 1) (hx : x + 1 < b) (hx1 : 1 ≤ x) (hk : Sort.Holds e32 W blk off d) (h0 : blk < W.heap.size) (h1 : W.cell? ⟨w.heap.size, 0, none⟩ = some (.int .i64 (t : Nat))) (h2 : W.frozen? ⟨w.heap.size, 0, none⟩ = false) (h3 : t ≤ 900) =>
    medA32_any (fun x => a ≤ x ∧ x < b) blk off cap x w.heap.size t d W hk h0 hne (fun x hx => by omega) ⟨hx0, by omega⟩ ⟨by omega, by omega⟩ ⟨by omega, hx⟩ hx1 hsz h1 h2 h3)
  clear ho0 hH0 hH
  obtain ⟨I, hI⟩ : ∃ I : Nat, I = a + (b - a) / 4 * 1 := ⟨_, rfl⟩
  obtain ⟨J, hJ⟩ : ∃ J : Nat, J = a + (b - a) / 4 * 2 := ⟨_, rfl⟩
  obtain ⟨K, hK⟩ : ∃ K : Nat, K = a + (b - a) / 4 * 3 := ⟨_, rfl⟩
  have eI : ((a : Int) + ((b : Int) - (a : Int)) / 4) = (I : Int) := by omega
  have eJ : ((a : Int) + ((b : Int) - (a : Int)) / 4 * 2) = (J : Int) := by omega
  have eK : ((a : Int) + ((b : Int) - (a : Int)) / 4 * 3) = (K : Int) := by omega
  by_cases h8 : 8 ≤ b - a
  · have h8z : decide ((8 : Int) ≤ (b : Int) - (a : Int)) = true := decide_eq_true (by omega)
    by_cases h50 : 50 ≤ b - a
    · have h50z : decide ((50 : Int) ≤ (b : Int) - (a : Int)) = true := decide_eq_true (by omega)
      have b1 : a ≤ I - 1 ∧ I + 1 < b ∧ 1 ≤ I := by omega
      have b2 : a ≤ J - 1 ∧ J + 1 < b ∧ 1 ≤ J := by omega
      have b3 : a ≤ K - 1 ∧ K + 1 < b ∧ 1 ≤ K := by omega
      clear hI hJ hK
      go_enter Tryz.func161, Tryz.ntmps161
      have hz0 : blk < (w.alloc (.cells #[.int .i64 0] 3)).heap.size := by simp; omega
      go_wp2_with fail
      refine (HMA.out I 0 _ b1.1 b1.2.1 b1.2.2 HH0.out hz0 (by simp) (by simp) (by omega)).mono ?_
      rintro e w1 ⟨i1, rfl, hi1, s1, hs1, hc1, hf1, ho1⟩
      have HS1 := Lib.hid (And.intro hc1 hf1)
      have HO1 := Lib.hid (HO0.out.under ho1)
      have HH1 := Lib.hid (ho1.holds HH0.out hz0 hne)
      clear hc1 hf1 ho1
      go_wp2_with fail
      refine (HMA.out J s1 _ b2.1 b2.2.1 b2.2.2 HH1.out (Nat.lt_of_lt_of_le hblk HO1.out.size) HS1.out.1 HS1.out.2 (by omega)).mono ?_
      rintro e w2 ⟨i2, rfl, hi2, s2, hs2, hc2, hf2, ho2⟩
      have HS2 := Lib.hid (And.intro hc2 hf2)
      have HO2 := Lib.hid (HO1.out.under ho2)
      have HH2 := Lib.hid (ho2.holds HH1.out (Nat.lt_of_lt_of_le hblk HO1.out.size) hne)
      clear hc2 hf2 ho2
      go_wp2_with fail
      refine (HMA.out K s2 _ b3.1 b3.2.1 b3.2.2 HH2.out (Nat.lt_of_lt_of_le hblk HO2.out.size) HS2.out.1 HS2.out.2 (by omega)).mono ?_
      rintro e w3 ⟨i3, rfl, hi3, s3, hs3, hc3, hf3, ho3⟩
      have HS3 := Lib.hid (And.intro hc3 hf3)
      have HO3 := Lib.hid (HO2.out.under ho3)
      have HH3 := Lib.hid (ho3.holds HH2.out (Nat.lt_of_lt_of_le hblk HO2.out.size) hne)
      clear hc3 hf3 ho3
      go_wp2_with fail
      refine (HM.out i1 i2 i3 s3 _ hi1 hi2 hi3 HH3.out (Nat.lt_of_lt_of_le hblk HO3.out.size) HS3.out.1 HS3.out.2 (by omega)).mono ?_
      rintro e w4 ⟨i4, rfl, hi4, s4, hs4, hc4, hf4, ho4⟩
      have HS4 := Lib.hid (And.intro hc4 hf4)
      have HO4 := Lib.hid (HO3.out.under ho4)
      have HH4 := Lib.hid (ho4.holds HH3.out (Nat.lt_of_lt_of_le hblk HO3.out.size) hne)
      clear hc4 hf4 ho4
      have hcl := HS4.out.1
      go_wp2_with fail
      all_goals
        go_ret2
        first
          | exact ⟨i4, 1, rfl, hi4.1, hi4.2, by simp, HO4.out⟩
          | exact ⟨i4, 2, rfl, hi4.1, hi4.2, by simp, HO4.out⟩
          | exact ⟨i4, 0, rfl, hi4.1, hi4.2, by simp, HO4.out⟩
    · have h50z : decide ((50 : Int) ≤ (b : Int) - (a : Int)) = false := decide_eq_false (by omega)
      have b1 : a ≤ I ∧ I < b := by omega
      have b2 : a ≤ J ∧ J < b := by omega
      have b3 : a ≤ K ∧ K < b := by omega
      clear hI hJ hK
      go_enter Tryz.func161, Tryz.ntmps161
      have hz0 : blk < (w.alloc (.cells #[.int .i64 0] 3)).heap.size := by simp; omega
      go_wp2_with fail
      refine (HM.out I J K 0 _ b1 b2 b3 HH0.out hz0 (by simp) (by simp) (by omega)).mono ?_
      rintro e w1 ⟨i1, rfl, hi1, s1, hs1, hc1, hf1, ho1⟩
      have HS1 := Lib.hid (And.intro hc1 hf1)
      have HO1 := Lib.hid (HO0.out.under ho1)
      have HH1 := Lib.hid (ho1.holds HH0.out hz0 hne)
      clear hc1 hf1 ho1
      have hcl := HS1.out.1
      go_wp2_with fail
      all_goals
        go_ret2
        first
          | exact ⟨i1, 1, rfl, hi1.1, hi1.2, by simp, HO1.out⟩
          | exact ⟨i1, 2, rfl, hi1.1, hi1.2, by simp, HO1.out⟩
          | exact ⟨i1, 0, rfl, hi1.1, hi1.2, by simp, HO1.out⟩
  · have h8z : decide ((8 : Int) ≤ (b : Int) - (a : Int)) = false := decide_eq_false (by omega)
    have bJ : a ≤ J ∧ J < b := by omega
    clear hI hJ hK
    go_enter Tryz.func161, Tryz.ntmps161
    go_wp2_with fail
    go_ret2
    exact ⟨J, 1, rfl, bJ.1, bJ.2, by simp, HO0.out⟩

/-! ### the patterns -/
def XorR (w : World) (rb : Nat) (e : Ending) (w' : World) : Prop :=
  ∃ v : Nat, v < 18446744073709551616 ∧ e = .returned (.int .u64 (v : Nat)) ∧ w'.cell? ⟨rb, 0, none⟩ = some (.int .u64 (v : Nat)) ∧ w'.frozen? ⟨rb, 0, none⟩ = false ∧ OnlyB (fun k => k = rb) w w'
theorem xor_any (rb X : Nat) (hX : X < 18446744073709551616) (w : World) (hc : w.cell? ⟨rb, 0, none⟩ = some (.int .u64 (X : Nat))) (hf : w.frozen? ⟨rb, 0, none⟩ = false) :
    Calls Tryz.prog 135 #[.pointer (some ⟨rb, 0, none⟩)] w (XorR w rb) := by
  obtain ⟨B1, hB1⟩ : ∃ B : Nat, B = X ^^^ (X * 8192 % 18446744073709551616) := ⟨_, rfl⟩
  obtain ⟨B2, hB2⟩ : ∃ B : Nat, B = B1 ^^^ (B1 / 128) := ⟨_, rfl⟩
  obtain ⟨B3, hB3⟩ : ∃ B : Nat, B = B2 ^^^ (B2 * 131072 % 18446744073709551616) := ⟨_, rfl⟩
  have l1 : B1 < 18446744073709551616 := by rw [hB1]; exact Nat.xor_lt_two_pow (n := 64) (by omega) (by omega)
  have l2 : B2 < 18446744073709551616 := by rw [hB2]; exact Nat.xor_lt_two_pow (n := 64) (by omega) (by omega)
  have l3 : B3 < 18446744073709551616 := by rw [hB3]; exact Nat.xor_lt_two_pow (n := 64) (by omega) (by omega)
  have e1 : bits .xor .u64 (X : Int) (IntKind.u64.wrap ((X : Int) * 8192)) = (B1 : Int) := by
    rw [IntKind.wrap_u64, show ((X : Int) * 8192 % 18446744073709551616) = ((X * 8192 % 18446744073709551616 : Nat) : Int) by omega, bits_xor_u64_nat _ _ hX (by omega), hB1]
  have e2 : bits .xor .u64 (B1 : Int) ((B1 : Int) / 128) = (B2 : Int) := by
    rw [show ((B1 : Int) / 128) = ((B1 / 128 : Nat) : Int) by omega, bits_xor_u64_nat _ _ l1 (by omega), hB2]
  have e3 : bits .xor .u64 (B2 : Int) (IntKind.u64.wrap ((B2 : Int) * 131072)) = (B3 : Int) := by
    rw [IntKind.wrap_u64, show ((B2 : Int) * 131072 % 18446744073709551616) = ((B2 * 131072 % 18446744073709551616 : Nat) : Int) by omega, bits_xor_u64_nat _ _ l2 (by omega), hB3]
  clear hB1 hB2 hB3
  have hss : ∀ v v', (w.setCell ⟨rb, 0, none⟩ v).setCell ⟨rb, 0, none⟩ v' = w.setCell ⟨rb, 0, none⟩ v' := fun v v' => by
    rw [Sort.setCell_eq, Sort.setCell_eq, Sort.mapBlock_mapBlock, Sort.setCell_eq]
    congr 1
    funext c
    simp
  go_enter Tryz.func135, Tryz.ntmps135
  go_wp2
  go_region
  all_goals go_wp2
  all_goals go_region
  all_goals go_wp2
  all_goals go_region
  all_goals go_wp2
  go_ret
  exact ⟨B3, l3, rfl, by simp [go_sem, hc], by simp [go_sem, hf], ((OnlyB.refl (fun k => k = rb) _).setCell (p := ⟨rb, 0, none⟩) (fun _ => rfl) _).drewN 3⟩
theorem swap_rowS {w : World} {blk off : Nat} {d : Array Nat} (hH : Sort.Holds e32 w blk off d) {i j : Nat} (hi : i < d.size) (hj : j < d.size) :
    RowS w blk off (Sort.swp d i j) ((w.setCell ⟨blk, off + i, none⟩ (.int .u32 ((d[j]! : Nat) : Int))).setCell ⟨blk, off + j, none⟩ (.int .u32 ((d[i]! : Nat) : Int))).drew := by
  have h := rowW_swap (rowW_start hH) 1 hi hj
  rw [show ((w.setCell ⟨blk, off + i, none⟩ (.int .u32 ((d[j]! : Nat) : Int))).setCell ⟨blk, off + j, none⟩ (.int .u32 ((d[i]! : Nat) : Int))).drew = ((w.drewN 1).setCell ⟨blk, off + i, none⟩ (.int .u32 ((d[j]! : Nat) : Int))).setCell ⟨blk, off + j, none⟩ (.int .u32 ((d[i]! : Nat) : Int)) from rfl, h]
  exact rowW_rowS hH (swp_size _ _ _)
def BrkR (a b : Nat) (d : Array Nat) (w : World) (blk off : Nat) (e : Ending) (w' : World) : Prop := e = .returned (.tuple #[]) ∧ ∃ d', Sort.PermIn a b d d' ∧ RowS w blk off d' w'
def brkI (a b L : Nat) (d : Array Nat) (w : World) (blk off : Nat) (v : Value) (wr : World) : Prop :=
  ∃ (t : Nat) (dk : Array Nat) (x : Nat), t ≤ 3 ∧ v = .int .i64 ((a + L / 4 * 2 - 1 + t : Nat) : Int) ∧ Sort.PermIn a b d dk ∧ RowS w blk off dk wr ∧ x < 18446744073709551616 ∧ wr.cell? ⟨w.heap.size, 0, none⟩ = some (.int .u64 (x : Nat)) ∧ wr.frozen? ⟨w.heap.size, 0, none⟩ = false ∧ w.heap.size < wr.heap.size
theorem brk32_any (blk off cap a b : Nat) (d : Array Nat) (w : World) (hH : Sort.Holds e32 w blk off d) (hblk : blk < w.heap.size) (hab : a ≤ b) (hb : b ≤ d.size) (hsz : d.size < 65536) :
    Calls Tryz.prog 160 #[.slice (some ⟨blk, off, none⟩) d.size cap, .int .i64 a, .int .i64 b] w (BrkR a b d w blk off) := by
  have HH := Lib.hid hH
  clear hH
  obtain ⟨L, hL⟩ : ∃ L, b = a + L := ⟨b - a, by omega⟩
  have eL : (b : Int) - (a : Int) = (L : Int) := by omega
  have hL1 : b ≤ a + L := by omega
  have hL2 : a + L ≤ b := by omega
  clear hL
  by_cases h8 : 8 ≤ L
  · have h8z : decide (8 ≤ L) = true := decide_eq_true h8
    have h8y : decide ((8 : Int) ≤ (L : Int)) = true := decide_eq_true (by omega)
    have hwL : IntKind.u64.wrap (L : Int) = (L : Int) := by simp [IntKind.wrap, IntKind.bits, IntKind.signed]; omega
    have HN := Lib.hid (fun w => pow2_any L (by omega) (by omega) w)
    obtain ⟨M, hM⟩ : ∃ M, M = 2 ^ Lib.bitLen L := ⟨_, rfl⟩
    have hM2 : M ≤ 2 * L := by rw [hM]; exact len_two_pow L (by omega)
    have hM1 : 1 ≤ M := by rw [hM]; exact Nat.two_pow_pos _
    rw [← hM] at HN
    clear hM
    have hs0 : RowS w blk off d (w.alloc (.cells #[.int .u64 (L : Nat)] 201)) := ⟨((OnlyB.refl (fun k => k = w.heap.size) w).alloc _).holds HH.out hblk (by omega), (OnlyB.refl _ _).alloc _⟩
    have HS0 := Lib.hid hs0
    clear hs0
    go_enter Tryz.func160, Tryz.ntmps160
    go_wp2_with fail
    refine (HN.out _).mono ?_
    rintro e w' ⟨rfl, rfl⟩
    go_wp2_with fail
    go_loopw [9] (fun v wr => brkI a b L d w blk off v wr) (fun v _ => a + L / 4 * 2 + 2 - (intOf v).toNat)
    case atStart => exact ⟨0, d, L, by omega, by congr 1; omega, Sort.permIn_refl _ _ _, HS0.out, by omega, by simp, by simp, by simp⟩
    case round =>
      obtain ⟨t, dk, x, ht, rfl, hp, hrs, hx, hcx, hfx, hwz⟩ := hrel
      have hdk : dk.size = d.size := hp.1
      have HP := Lib.hid hp
      obtain ⟨D, hD⟩ : ∃ D, D = a + L / 4 * 2 - 1 + t := ⟨_, rfl⟩
      rw [← hD]
      have hD1 : D ≤ a + L / 4 * 2 - 1 + t := by omega
      have hD2 : a + L / 4 * 2 - 1 + t ≤ D := by omega
      clear hD
      have HRS := Lib.hid hrs
      have HNX := Lib.hid (xor_any w.heap.size x hx wr hcx hfx)
      clear hp hrs hcx hfx
      by_cases ht3 : t < 3
      · have hDz : decide ((D : Int) ≤ (a : Int) + (L : Int) / 4 * 2 + 1) = true := decide_eq_true (by omega)
        go_wp2_with fail
        refine HNX.out.mono ?_
        rintro e w1 ⟨x1, hx1, rfl, hc1, hf1, ho1⟩
        have HX1 := Lib.hid (And.intro hc1 hf1)
        have hwz1 : w.heap.size < w1.heap.size := Nat.lt_of_lt_of_le hwz ho1.size
        have HH1 := Lib.hid (ho1.holds HRS.out.1 (by omega) (by omega))
        have HR1 := Lib.hid (show RowS w blk off dk w1 from ⟨HH1.out, HRS.out.2.trans ho1 (fun i hi e => by omega)⟩)
        obtain ⟨O, hO⟩ : ∃ O : Nat, O = x1 &&& (M - 1) := ⟨_, rfl⟩
        have lO : O ≤ M - 1 := by rw [hO]; exact Nat.and_le_right
        have eAnd : bits .and .u64 (x1 : Int) ((M : Int) - 1) = (O : Int) := by
          rw [show ((M : Int) - 1) = ((M - 1 : Nat) : Int) by omega, bits_and_u64_nat _ _ hx1 (by omega), hO]
        clear hc1 hf1 ho1 hO HNX HRS
        by_cases hLO : L ≤ O
        · have hLz : decide (L ≤ O) = true := decide_eq_true hLO
          obtain ⟨P, hP⟩ : ∃ P : Nat, P = O - L := ⟨_, rfl⟩
          have eP : (O : Int) - (L : Int) = (P : Int) := by omega
          have hP1 : P + L ≤ O := by omega
          have hP2 : O ≤ P + L := by omega
          clear hP
          obtain ⟨G, hG⟩ : ∃ G : Nat → Nat, ∀ t, G t = dk[t]! := ⟨fun t => dk[t]!, fun _ => rfl⟩
          have hcw : ∀ t, t < d.size → w1.cell? ⟨blk, off + t, none⟩ = some (.int .u32 ((G t : Nat) : Int)) := fun t ht => by rw [hG]; exact (HH1.out t (by omega)).1
          have hfw : ∀ t, t < d.size → w1.frozen? ⟨blk, off + t, none⟩ = false := fun t ht => (HH1.out t (by omega)).2
          have cq : w1.cell? ⟨blk, off + (a + P), none⟩ = some (.int .u32 ((G (a + P) : Nat) : Int)) := hcw _ (by omega)
          obtain ⟨v3, hy3⟩ := cell?_setCell_some (w := w1) (p := ⟨blk, off + D, none⟩) (x := .int .u32 ((G (a + P) : Nat) : Int)) (q := ⟨blk, off + (a + P), none⟩) cq
          have HG := Lib.hid hG
          clear hG
          go_wp2_with fail
          go_region
          all_goals go_wp2_with fail
          repeat rw [HG.out]
          have hrs := swap_rowS HH1.out (i := D) (j := a + P) (by omega) (by omega)
          clear hcw hfw cq hy3
          generalize ((w1.setCell ⟨blk, off + D, none⟩ (.int .u32 ((dk[a + P]! : Nat) : Int))).setCell ⟨blk, off + (a + P), none⟩ (.int .u32 ((dk[D]! : Nat) : Int))).drew = w2 at hrs ⊢
          go_roundw
          case rel => exact ⟨t + 1, Sort.swp dk D (a + P), x1, by omega, by congr 1; omega, Sort.permIn_trans _ _ _ _ _ HP.out (Sort.swp_permIn _ _ _ _ _ (by omega) (by omega) (by omega) (by omega) (by omega)), HR1.out.trans hrs, hx1, (hrs.2.cell (by omega) (by omega) _).trans HX1.out.1, (hrs.2.frozen (by omega) (by omega) _).trans HX1.out.2, Nat.lt_of_lt_of_le hwz1 hrs.2.size⟩
          case measure => simp [intOf]; omega
        · have hLz : decide (L ≤ O) = false := decide_eq_false hLO
          obtain ⟨G, hG⟩ : ∃ G : Nat → Nat, ∀ t, G t = dk[t]! := ⟨fun t => dk[t]!, fun _ => rfl⟩
          have hcw : ∀ t, t < d.size → w1.cell? ⟨blk, off + t, none⟩ = some (.int .u32 ((G t : Nat) : Int)) := fun t ht => by rw [hG]; exact (HH1.out t (by omega)).1
          have hfw : ∀ t, t < d.size → w1.frozen? ⟨blk, off + t, none⟩ = false := fun t ht => (HH1.out t (by omega)).2
          have cq : w1.cell? ⟨blk, off + (a + O), none⟩ = some (.int .u32 ((G (a + O) : Nat) : Int)) := hcw _ (by omega)
          obtain ⟨v3, hy3⟩ := cell?_setCell_some (w := w1) (p := ⟨blk, off + D, none⟩) (x := .int .u32 ((G (a + O) : Nat) : Int)) (q := ⟨blk, off + (a + O), none⟩) cq
          have HG := Lib.hid hG
          clear hG
          go_wp2_with fail
          go_region
          all_goals go_wp2_with fail
          repeat rw [HG.out]
          have hrs := swap_rowS HH1.out (i := D) (j := a + O) (by omega) (by omega)
          clear hcw hfw cq hy3
          generalize ((w1.setCell ⟨blk, off + D, none⟩ (.int .u32 ((dk[a + O]! : Nat) : Int))).setCell ⟨blk, off + (a + O), none⟩ (.int .u32 ((dk[D]! : Nat) : Int))).drew = w2 at hrs ⊢
          go_roundw
          case rel => exact ⟨t + 1, Sort.swp dk D (a + O), x1, by omega, by congr 1; omega, Sort.permIn_trans _ _ _ _ _ HP.out (Sort.swp_permIn _ _ _ _ _ (by omega) (by omega) (by omega) (by omega) (by omega)), HR1.out.trans hrs, hx1, (hrs.2.cell (by omega) (by omega) _).trans HX1.out.1, (hrs.2.frozen (by omega) (by omega) _).trans HX1.out.2, Nat.lt_of_lt_of_le hwz1 hrs.2.size⟩
          case measure => simp [intOf]; omega
      · have hDz : decide ((D : Int) ≤ (a : Int) + (L : Int) / 4 * 2 + 1) = false := decide_eq_false (by omega)
        go_wp2_with fail
        go_end0
        exact ⟨rfl, dk, HP.out, HRS.out⟩
  · have h8z : decide (8 ≤ L) = false := decide_eq_false h8
    have h8y : decide ((8 : Int) ≤ (L : Int)) = false := decide_eq_false (by omega)
    go_enter Tryz.func160, Tryz.ntmps160
    go_wp2_with fail
    go_end0
    exact ⟨rfl, d, Sort.permIn_refl _ _ _, HH.out, OnlyB.refl _ _⟩
end Go.Proofs.YtcklfffeimnfeaaGreat

namespace Go.Proofs.YtcklfffeimnfeaaGreat
open Go.RowKit

def Srt (a b : Nat) (d : Array Nat) : Prop := ∀ i j, a ≤ i → i < j → j < b → d[i]! ≤ d[j]!
def LowB (a b : Nat) (d : Array Nat) : Prop := a = 0 ∨ ∀ i, a ≤ i → i < b → d[a - 1]! ≤ d[i]!
theorem srt_of {a b : Nat} {d : Array Nat} (h : Sort.SortedIn ltN a b d) : Srt a b d := fun i j h1 h2 h3 => by
  have := h i j h1 h2 h3
  simp only [ltN, decide_eq_false_iff_not] at this
  omega
theorem low_of {a b : Nat} {d : Array Nat} (h : LowB a b d) : Sort.Below ltN a b d := by
  rcases h with h | h
  · exact .inl h
  · exact .inr (fun i h1 h2 => by have := h i h1 h2; simp only [ltN, decide_eq_false_iff_not]; omega)
theorem perm_all {a b : Nat} {d d' : Array Nat} (h : Sort.PermIn a b d d') (hb : b ≤ d.size) {p : Nat → Prop} (hp : ∀ i, a ≤ i → i < b → p d[i]!) : ∀ i, a ≤ i → i < b → p d'[i]! := Sort.permIn_all d d' a b p hb h hp
theorem low_perm {a b : Nat} {d d' : Array Nat} (h : LowB a b d) (hp : Sort.PermIn a b d d') (hb : b ≤ d.size) : LowB a b d' := by
  rcases h with h | h
  · exact .inl h
  · rcases Nat.eq_zero_or_pos a with h0 | h0
    · exact .inl h0
    · right
      rw [hp.2.1 (a - 1) (.inl (by omega))]
      exact perm_all hp hb h

structure PdqInv (a b : Nat) (d : Array Nat) (a' b' : Nat) (dk : Array Nat) : Prop where
  lo : a ≤ a'
  mid : a' ≤ b'
  hi : b' ≤ b
  size : dk.size = d.size
  low : LowB a' b' dk
  fin : ∀ d', Sort.PermIn a' b' dk d' → Srt a' b' d' → Sort.PermIn a b d d' ∧ Srt a b d'

section
variable {a b a' b' : Nat} {d dk dk' : Array Nat}
theorem PdqInv.start (hab : a ≤ b) (hl : LowB a b d) : PdqInv a b d a b d := ⟨Nat.le_refl _, hab, Nat.le_refl _, rfl, hl, fun d' h1 h2 => ⟨h1, h2⟩⟩
theorem PdqInv.perm (h : PdqInv a b d a' b' dk) (hb : b ≤ d.size) (hp : Sort.PermIn a' b' dk dk') : PdqInv a b d a' b' dk' :=
  ⟨h.lo, h.mid, h.hi, hp.1.trans h.size, low_perm h.low hp (by rw [h.size]; exact Nat.le_trans h.hi hb), fun d' h1 h2 => h.fin d' (Sort.permIn_trans _ _ _ _ _ hp h1) h2⟩
theorem PdqInv.done (h : PdqInv a b d a' b' dk) (hp : Sort.PermIn a' b' dk dk') (hs : Sort.SortedIn ltN a' b' dk') : Sort.PermIn a b d dk' ∧ Srt a b dk' := h.fin _ hp (srt_of hs)
/-- the part that is equal to the pivot is in its place -/
theorem PdqInv.eq (h : PdqInv a b d a' b' dk) (hb : b ≤ d.size) {p : Nat} (hp1 : a' ≤ p) (hp2 : p < b') (h0 : 0 < a') (hle : ltN dk[a' - 1]! dk[p]! = false) {m : Nat} {d4 : Array Nat} (hx : Sort.partitionEqual ltN dk a' b' p = (m, d4)) :
    a' < m ∧ PdqInv a b d m b' d4 := by
  have hbk : b' ≤ dk.size := by rw [h.size]; exact Nat.le_trans h.hi hb
  have hl : ∀ i, a' ≤ i → i < b' → dk[p]! ≤ dk[i]! := by
    rcases h.low with h1 | h1
    · omega
    · intro i hi1 hi2
      have := h1 i hi1 hi2
      simp only [ltN, decide_eq_false_iff_not] at hle
      omega
  have hq := Sort.partitionEqual_holds ltN ltN_swo dk a' b' p hp1 hp2 hbk (fun i h1 h2 => by have := hl i h1 h2; simp only [ltN, decide_eq_false_iff_not]; omega)
  rw [hx] at hq
  obtain ⟨q1, q2, q3, q4, q5⟩ := hq
  simp only [ltN, decide_eq_false_iff_not, decide_eq_true_eq] at q1 q2 q3 q4 q5
  have hl4 : ∀ i, a' ≤ i → i < b' → dk[p]! ≤ d4[i]! := perm_all q3 hbk hl
  refine ⟨q1, ⟨by have := h.lo; omega, q2, h.hi, q3.1.trans h.size, .inr (fun i h1 h2 => ?_), fun d' hp hs => ?_⟩⟩
  · have := q4 (m - 1) (by omega) (by omega)
    have := q5 i h1 h2
    omega
  · have hp' : Sort.PermIn a' b' d4 d' := Sort.permIn_mono _ _ _ _ _ _ (by omega) (Nat.le_refl _) (by rw [q3.1]; exact hbk) hp
    have h5 : ∀ i, m ≤ i → i < b' → dk[p]! < d'[i]! := perm_all hp (by rw [q3.1]; exact hbk) q5
    refine h.fin d' (Sort.permIn_trans _ _ _ _ _ q3 hp') (fun i j h1 h2 h3 => ?_)
    rcases Nat.lt_or_ge i m with hi | hi
    · rw [hp.2.1 i (.inl hi)]
      have e1 := q4 i h1 hi
      rcases Nat.lt_or_ge j m with hj | hj
      · rw [hp.2.1 j (.inl hj)]
        have e2 := hl4 j (by omega) (by omega)
        omega
      · have := h5 j hj h3
        omega
    · exact hs i j hi h2 h3
theorem srt_join {a m b : Nat} {d : Array Nat} (h1 : Srt a m d) (h2 : Srt (m + 1) b d) (h3 : ∀ i, a ≤ i → i < m → d[i]! ≤ d[m]!) (h4 : ∀ i, m < i → i < b → d[m]! ≤ d[i]!) : Srt a b d := by
  intro i j hi hij hj
  rcases Nat.lt_trichotomy i m with hm | hm | hm
  · rcases Nat.lt_trichotomy j m with hn | hn | hn
    · exact h1 i j hi hij hn
    · subst hn; exact h3 i hi hm
    · exact Nat.le_trans (h3 i hi hm) (h4 j hn hj)
  · subst hm; exact h4 j hij hj
  · exact h2 i j hm hij hj
/-- partitioned; the left part is sorted: on with the right one -/
theorem PdqInv.left (h : PdqInv a b d a' b' dk) (hb : b ≤ d.size) {p : Nat} (hp1 : a' ≤ p) (hp2 : p < b') {m : Nat} {ap : Bool} {d4 : Array Nat} (hx : Sort.partition ltN dk a' b' p = (m, ap, d4)) :
    a' ≤ m ∧ m < b' ∧ d4.size = d.size ∧ LowB a' m d4 ∧ LowB (m + 1) b' d4 ∧
    (∀ d5, Sort.PermIn a' m d4 d5 → Srt a' m d5 → PdqInv a b d (m + 1) b' d5) ∧ (∀ d5, Sort.PermIn (m + 1) b' d4 d5 → Srt (m + 1) b' d5 → PdqInv a b d a' m d5) := by
  have hbk : b' ≤ dk.size := by rw [h.size]; exact Nat.le_trans h.hi hb
  have hq := Sort.partition_holds ltN ltN_swo dk a' b' p hp1 hp2 hbk
  rw [hx] at hq
  obtain ⟨q1, q2, q3, q4, q5⟩ := hq
  simp only [ltN, decide_eq_false_iff_not, decide_eq_true_eq] at q1 q2 q3 q4 q5
  have hs4 : d4.size = d.size := q3.1.trans h.size
  have hb4 : b' ≤ d4.size := by rw [q3.1]; exact hbk
  have hlo4 := low_perm h.low q3 hbk
  have hloL : LowB a' m d4 := by
    rcases hlo4 with h1 | h1
    · exact .inl h1
    · exact .inr (fun i h2 h3 => h1 i h2 (by omega))
  have hloR : LowB (m + 1) b' d4 := .inr (fun i h1 h2 => by have := q5 i (by omega) h2; simp only [Nat.add_sub_cancel]; omega)
  refine ⟨q1, q2, hs4, hloL, hloR, fun d5 hp hs => ?_, fun d5 hp hs => ?_⟩
  · have e5 : ∀ i, m ≤ i → d5[i]! = d4[i]! := fun i hi => hp.2.1 i (.inr hi)
    have l5 : ∀ i, a' ≤ i → i < m → d5[i]! ≤ d5[m]! := fun i h1 h2 => by
      have := perm_all hp (by omega) (p := fun x => x < d4[m]!) (fun i h1 h2 => q4 i h1 h2) i h1 h2
      rw [e5 m (Nat.le_refl _)]; omega
    refine ⟨by have := h.lo; omega, by omega, h.hi, hp.1.trans hs4, .inr (fun i h1 h2 => ?_), fun d' hp2 hs2 => ?_⟩
    · simp only [Nat.add_sub_cancel]
      rw [e5 i (by omega), e5 m (Nat.le_refl _)]
      have := q5 i (by omega) h2; omega
    · have hP : Sort.PermIn a' b' d4 d' := Sort.permIn_trans _ _ _ _ _ (Sort.permIn_mono _ _ _ _ _ _ (Nat.le_refl _) (by omega) hb4 hp) (Sort.permIn_mono _ _ _ _ _ _ (by omega) (Nat.le_refl _) (by rw [hp.1]; exact hb4) hp2)
      have e6 : ∀ i, i < m + 1 → d'[i]! = d5[i]! := fun i hi => hp2.2.1 i (.inl hi)
      refine h.fin d' (Sort.permIn_trans _ _ _ _ _ q3 hP) (srt_join (m := m) (fun i j h1 h2 h3 => ?_) hs2 (fun i h1 h2 => ?_) (fun i h1 h2 => ?_))
      · rw [e6 i (by omega), e6 j (by omega)]; exact hs i j h1 h2 h3
      · rw [e6 i (by omega), e6 m (by omega)]; exact l5 i h1 h2
      · rw [e6 m (by omega)]
        exact perm_all hp2 (by rw [hp.1]; exact hb4) (p := fun x => d5[m]! ≤ x) (fun i h1 h2 => by rw [e5 i (by omega), e5 m (Nat.le_refl _)]; have := q5 i (by omega) h2; omega) i (by omega) h2
  · have e5 : ∀ i, i < m + 1 → d5[i]! = d4[i]! := fun i hi => hp.2.1 i (.inl hi)
    have l5 : ∀ i, m < i → i < b' → d5[m]! ≤ d5[i]! := fun i h1 h2 => by
      have := perm_all hp hb4 (p := fun x => d4[m]! ≤ x) (fun i h1 h2 => by have := q5 i (by omega) h2; omega) i (by omega) h2
      rw [e5 m (by omega)]; exact this
    refine ⟨h.lo, q1, by have := h.hi; omega, hp.1.trans hs4, ?_, fun d' hp2 hs2 => ?_⟩
    · rcases hloL with h1 | h1
      · exact .inl h1
      · rcases Nat.eq_zero_or_pos a' with h0 | h0
        · exact .inl h0
        · exact .inr (fun i h2 h3 => by rw [e5 i (by omega), e5 (a' - 1) (by omega)]; exact h1 i h2 h3)
    · have hP : Sort.PermIn a' b' d4 d' := Sort.permIn_trans _ _ _ _ _ (Sort.permIn_mono _ _ _ _ _ _ (by omega) (Nat.le_refl _) hb4 hp) (Sort.permIn_mono _ _ _ _ _ _ (Nat.le_refl _) (by omega) (by rw [hp.1]; exact hb4) hp2)
      have e6 : ∀ i, m ≤ i → d'[i]! = d5[i]! := fun i hi => hp2.2.1 i (.inr hi)
      refine h.fin d' (Sort.permIn_trans _ _ _ _ _ q3 hP) (srt_join (m := m) hs2 (fun i j h1 h2 h3 => ?_) (fun i h1 h2 => ?_) (fun i h1 h2 => ?_))
      · rw [e6 i (by omega), e6 j (by omega)]; exact hs i j h1 h2 h3
      · rw [e6 m (Nat.le_refl _)]
        have := perm_all hp2 (by rw [hp.1]; omega) (p := fun x => x ≤ d5[m]!) (fun i h1 h2 => by rw [e5 i (by omega), e5 m (by omega)]; have := q4 i h1 h2; omega) i h1 h2
        exact this
      · rw [e6 m (Nat.le_refl _), e6 i (by omega)]; exact l5 i h1 h2
end
end Go.Proofs.YtcklfffeimnfeaaGreat
