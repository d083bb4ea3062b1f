/- Sorting a row of uint32 in place, fourth part: partial insertion. -/
import Derived.Test.YtlgnpogmgpgdaaaSort1
namespace Go.Proofs.Ytlgnpogmgpgdaaa
set_option linter.unusedSimpArgs false
set_option linter.unusedVariables false
set_option maxRecDepth 100000
open Go.RowKit

theorem ss_go (d : Array Nat) (b i : Nat) (h : i < b) (hl : ltN d[i]! d[i - 1]! = false) : Sort.scanSorted ltN d b i = Sort.scanSorted ltN d b (i + 1) := by
  rw [Sort.scanSorted]; simp [h, hl]
theorem ss_stop (d : Array Nat) (b i : Nat) (h : ¬ i < b ∨ ltN d[i]! d[i - 1]! = true) : Sort.scanSorted ltN d b i = i := by
  rw [Sort.scanSorted]
  rcases h with h | h <;> simp [h]
theorem shd_go (j : Nat) (d : Array Nat) (hj : 1 ≤ j) (hl : ltN d[j]! d[j - 1]! = true) : Sort.shiftDown ltN j d = Sort.shiftDown ltN (j - 1) (Sort.swp d j (j - 1)) := by
  obtain ⟨k, rfl⟩ : ∃ k, j = k + 1 := ⟨j - 1, by omega⟩
  rw [Sort.shiftDown]
  simp only [Nat.add_sub_cancel] at hl ⊢
  simp [hl]
theorem shd_stop (j : Nat) (d : Array Nat) (h : j = 0 ∨ ltN d[j]! d[j - 1]! = false) : Sort.shiftDown ltN j d = d := by
  cases j with
  | zero => rw [Sort.shiftDown]
  | succ k =>
    rw [Sort.shiftDown]
    simp only [Nat.add_sub_cancel] at h
    rcases h with h | h
    · omega
    · simp [h]
theorem shu_go (b j : Nat) (d : Array Nat) (hj : j < b) (hl : ltN d[j]! d[j - 1]! = true) : Sort.shiftUp ltN b j d = Sort.shiftUp ltN b (j + 1) (Sort.swp d j (j - 1)) := by
  rw [Sort.shiftUp]; simp [hj, hl]
theorem shu_stop (b j : Nat) (d : Array Nat) (h : ¬ j < b ∨ ltN d[j]! d[j - 1]! = false) : Sort.shiftUp ltN b j d = d := by
  rw [Sort.shiftUp]
  rcases h with h | h
  · simp [h]
  · by_cases hj : j < b <;> simp [hj, h]
theorem pins_true (a b s i : Nat) (d : Array Nat) (hs : s < 5) (hK : Sort.scanSorted ltN d b i = b) : Sort.partialIns ltN a b (5 - s) i d = (d, true) := by
  rw [show 5 - s = (4 - s) + 1 by omega, Sort.partialIns]
  simp only [hK, if_true]
theorem pins_short (a b s i k : Nat) (d : Array Nat) (hs : s < 5) (hK : Sort.scanSorted ltN d b i = k) (hk : k ≠ b) (h50 : b - a < 50) : Sort.partialIns ltN a b (5 - s) i d = (d, false) := by
  rw [show 5 - s = (4 - s) + 1 by omega, Sort.partialIns]
  simp only [hK, if_neg hk, if_pos h50]
def fixD (a k : Nat) (d : Array Nat) : Array Nat := if k - a ≥ 2 then Sort.shiftDown ltN (k - 1) d else d
def fixU (b k : Nat) (d : Array Nat) : Array Nat := if b - k ≥ 2 then Sort.shiftUp ltN b (k + 1) d else d
theorem pins_go (a b s i k : Nat) (d : Array Nat) (hs : s < 5) (hK : Sort.scanSorted ltN d b i = k) (hk : k ≠ b) (h50 : ¬ b - a < 50) :
    Sort.partialIns ltN a b (5 - s) i d = Sort.partialIns ltN a b (5 - (s + 1)) k (fixU b k (fixD a k (Sort.swp d k (k - 1)))) := by
  rw [show 5 - s = (4 - s) + 1 by omega, Sort.partialIns]
  simp only [hK, if_neg hk, if_neg h50]
  rw [show 5 - (s + 1) = 4 - s by omega]
  rfl

def piI (w : World) (blk off a b : Nat) (d : Array Nat) (v1 v2 : Value) (wr : World) : Prop :=
  ∃ (i s n : Nat) (dk : Array Nat), v1 = .int .i64 i ∧ v2 = .int .i64 s ∧ s ≤ 5 ∧ a < i ∧ i ≤ b ∧ dk.size = d.size ∧ wr = rowW w blk off n dk ∧ Sort.partialIns ltN a b (5 - s) i dk = Sort.partialIns ltN a b 5 (a + 1) d
def ssI (w : World) (blk off b i : Nat) (dk : Array Nat) (v : Value) (wr : World) : Prop :=
  ∃ k n : Nat, v = .int .i64 k ∧ i ≤ k ∧ k ≤ b ∧ wr = rowW w blk off n dk ∧ Sort.scanSorted ltN dk b k = Sort.scanSorted ltN dk b i
def sdnI (w : World) (blk off k : Nat) (d d0 : Array Nat) (v : Value) (wr : World) : Prop :=
  ∃ (j n : Nat) (dj : Array Nat), v = .int .i64 j ∧ j ≤ k - 1 ∧ dj.size = d.size ∧ wr = rowW w blk off n dj ∧ Sort.shiftDown ltN j dj = Sort.shiftDown ltN (k - 1) d0
def supI (w : World) (blk off b k : Nat) (d d0 : Array Nat) (v : Value) (wr : World) : Prop :=
  ∃ (j n : Nat) (dj : Array Nat), v = .int .i64 j ∧ k + 1 ≤ j ∧ j ≤ b ∧ dj.size = d.size ∧ wr = rowW w blk off n dj ∧ Sort.shiftUp ltN b j dj = Sort.shiftUp ltN b (k + 1) d0
set_option maxHeartbeats 6400000 in
set_option maxRecDepth 100000 in
theorem pins32_any (blk off cap a b : Nat) (d : Array Nat) (w : World) (hH : Sort.Holds e32 w blk off d) (hab : a < b) (hb : b ≤ d.size) (hsz : d.size < 4611686018427387904) :
    Calls Try.prog 132 #[.slice (some ⟨blk, off, none⟩) d.size cap, .int .i64 a, .int .i64 b] w fun e w' =>
      e = .returned (.bool (Sort.partialInsertionSort ltN d a b).2) ∧ ∃ n, w' = rowW w blk off n (Sort.partialInsertionSort ltN d a b).1 := by
  have HH := Lib.hid hH
  clear hH
  go_enter Try.func132, Try.ntmps132
  go_wp2_with fail
  go_loopw [7, 8] (fun v1 v2 wr => piI w blk off a b d v1 v2 wr) (fun _ v2 _ => 5 - (intOf v2).toNat)
  case atStart => exact ⟨a + 1, 0, 0, d, by go_num, rfl, by omega, by omega, by omega, rfl, rowW_start HH.out, rfl⟩
  case round =>
    obtain ⟨i, s, n, dk, rfl, rfl, hs5, hai, hib, hsk, hwr, hO⟩ := hrel
    have HO := Lib.hid hO
    have HW0 := Lib.hid hwr
    clear hO hwr
    by_cases hs : s < 5
    · have hsz5 : decide ((s : Int) < 5) = true := decide_eq_true (by omega)
      go_wp2_with fail
      go_loopw [7] (fun v wr => ssI w blk off b i dk v wr) (fun v _ => b - (intOf v).toNat)
      case atStart => exact ⟨i, n, rfl, Nat.le_refl _, hib, HW0.out, rfl⟩
      case round =>
        obtain ⟨k, n2, rfl, hik, hkb, hw2, hS⟩ := hrel
        have HS := Lib.hid hS
        clear hS HW0
        obtain ⟨G, hG⟩ : ∃ G : Nat → Nat, ∀ t, G t = dk[t]! := ⟨fun t => dk[t]!, fun _ => rfl⟩
        have hcw : ∀ t, t < d.size → wr.cell? ⟨blk, off + t, none⟩ = some (.int .u32 ((G t : Nat) : Int)) := fun t ht => by rw [hw2, hG]; exact rowW_cell HH.out hsk ht
        have hfw : ∀ t, t < d.size → wr.frozen? ⟨blk, off + t, none⟩ = false := fun t ht => by rw [hw2]; exact rowW_frozen HH.out hsk ht
        have HW := Lib.hid hw2
        have HG := Lib.hid hG
        clear hw2 hG
        by_cases hkl : k < b
        · have hkz : decide (k < b) = true := decide_eq_true hkl
          have hke : ((k : Int) == (b : Int)) = false := by rw [beq_eq_false_iff_ne]; omega
          go_wp2_with fail
          go_quiet ((go_at_call 133; exact Calls.quiet_of_same (less32_any _ _ _)))
          go_wp2_with fail
          · have hl : (!ltN (G k) (G (k - 1))) = true := by assumption
            rw [Bool.not_eq_true', HG.out, HG.out] at hl
            go_roundw
            case rel => exact ⟨k + 1, n2 + nq, by go_num, by omega, by omega, by rw [HW.out]; exact rowW_drewN _, by rw [← HS.out, ss_go dk b k hkl hl]⟩
            case measure => simp [intOf]; omega
          · have hl : (!ltN (G k) (G (k - 1))) = false := by assumption
            rw [Bool.not_eq_false', HG.out, HG.out] at hl
            have HK := Lib.hid (HS.out.symm.trans (ss_stop dk b k (.inr hl)))
            have h50 : b - a < 50 := by omega
            go_wp2_with fail
            go_ret
            have hv : Sort.partialInsertionSort ltN d a b = (dk, false) := by
              unfold Sort.partialInsertionSort
              rw [← HO.out, pins_short a b s i k dk hs HK.out (by omega) h50]
            rw [hv]
            exact ⟨rfl, n2 + nq, by rw [HW.out]; exact rowW_drewN _⟩
          · have hl : (!ltN (G k) (G (k - 1))) = false := by assumption
            rw [Bool.not_eq_false', HG.out, HG.out] at hl
            have HK := Lib.hid (HS.out.symm.trans (ss_stop dk b k (.inr hl)))
            have h50 : ¬ b - a < 50 := by omega
            clear hl hkz HS hke
            go_wp2_with fail
            by_cases hka : 2 ≤ k - a
            · have hkaz : decide ((2 : Int) ≤ (k : Int) - (a : Int)) = true := decide_eq_true (by omega)
              go_region
              all_goals go_wp2_with fail
              repeat rw [HG.out]
              have hsw : ((wr.drewN (nq + 1)).setCell ⟨blk, off + k, none⟩ (.int .u32 ((dk[k - 1]! : Nat) : Int))).setCell ⟨blk, off + (k - 1), none⟩ (.int .u32 ((dk[k]! : Nat) : Int)) = rowW w blk off (n2 + (nq + 1)) (Sort.swp dk k (k - 1)) := rowW_swap HW.out (nq + 1) (by omega) (by omega)
              rw [hsw]
              obtain ⟨d0, hd0⟩ : ∃ d0, d0 = Sort.swp dk k (k - 1) := ⟨_, rfl⟩
              have hs0 : d0.size = d.size := by rw [hd0, swp_size]; exact hsk
              have HG0 := Lib.hid (pins_go a b s i k dk hs HK.out (by omega) h50)
              rw [← hd0] at HG0 ⊢
              clear hsw hd0 hcw hfw HW HG HK hsk
              go_loopw [9] (fun v wr => sdnI w blk off k d d0 v wr) (fun v _ => (intOf v).toNat)
              case atStart => exact ⟨k - 1, _, d0, by congr 1; omega, Nat.le_refl _, hs0, rfl, rfl⟩
              case round =>
                obtain ⟨j, n3, dd, rfl, hjk, hsd, hw3, hDn⟩ := hrel
                have HDn := Lib.hid hDn
                clear hDn
                by_cases hj : 1 ≤ j
                · have hjz : decide ((1 : Int) ≤ (j : Int)) = true := decide_eq_true (by omega)
                  obtain ⟨G, hG⟩ : ∃ G : Nat → Nat, ∀ t, G t = dd[t]! := ⟨fun t => dd[t]!, fun _ => rfl⟩
                  have hcw : ∀ t, t < d.size → wr.cell? ⟨blk, off + t, none⟩ = some (.int .u32 ((G t : Nat) : Int)) := fun t ht => by rw [hw3, hG]; exact rowW_cell HH.out hsd ht
                  have hfw : ∀ t, t < d.size → wr.frozen? ⟨blk, off + t, none⟩ = false := fun t ht => by rw [hw3]; exact rowW_frozen HH.out hsd ht
                  have HW := Lib.hid hw3
                  have HG := Lib.hid hG
                  clear hw3 hG
                  go_wp2_with fail
                  go_quiet ((go_at_call 133; exact Calls.quiet_of_same (less32_any _ _ _)))
                  obtain ⟨L, hL⟩ : ∃ L, L = ltN (G j) (G (j - 1)) := ⟨_, rfl⟩
                  rw [← hL]
                  have HL := Lib.hid (show L = ltN dd[j]! dd[j - 1]! by rw [hL, HG.out, HG.out])
                  clear hL
                  cases L
                  · have HD := Lib.hid (show fixD a k d0 = dd by unfold fixD; rw [if_pos hka, ← HDn.out, shd_stop j dd (.inr HL.out.symm)])
                    obtain ⟨n5, HW5⟩ : ∃ n5, Hid (wr.drewN nq = rowW w blk off n5 dd) := ⟨_, Lib.hid (by rw [HW.out]; exact rowW_drewN _)⟩
                    generalize wr.drewN nq = w5 at HW5 ⊢
                    clear hcw hfw HG HW HL HDn
                    by_cases hbk : 2 ≤ b - k
                    · have hbz : decide ((2 : Int) ≤ (b : Int) - (k : Int)) = true := decide_eq_true (by omega)
                      go_wp2_with fail
                      go_loopw [10] (fun v wr => supI w blk off b k d dd v wr) (fun v _ => b - (intOf v).toNat)
                      case atStart => exact ⟨k + 1, _, dd, by go_num, Nat.le_refl _, by omega, hsd, HW5.out, rfl⟩
                      case round =>
                        obtain ⟨j, n4, du, rfl, hkj, hjb, hsu, hw4, hU⟩ := hrel
                        have HU2 := Lib.hid hU
                        clear hU
                        by_cases hj : j < b
                        · have hjz : decide (j < b) = true := decide_eq_true hj
                          obtain ⟨G, hG⟩ : ∃ G : Nat → Nat, ∀ t, G t = du[t]! := ⟨fun t => du[t]!, fun _ => rfl⟩
                          have hcw : ∀ t, t < d.size → wr.cell? ⟨blk, off + t, none⟩ = some (.int .u32 ((G t : Nat) : Int)) := fun t ht => by rw [hw4, hG]; exact rowW_cell HH.out hsu ht
                          have hfw : ∀ t, t < d.size → wr.frozen? ⟨blk, off + t, none⟩ = false := fun t ht => by rw [hw4]; exact rowW_frozen HH.out hsu ht
                          have HW := Lib.hid hw4
                          have HG := Lib.hid hG
                          clear hw4 hG
                          go_wp2_with fail
                          go_quiet ((go_at_call 133; exact Calls.quiet_of_same (less32_any _ _ _)))
                          go_wp2_with fail
                          · have hl : (!ltN (G j) (G (j - 1))) = true := by assumption
                            rw [Bool.not_eq_true', HG.out, HG.out] at hl
                            have HU := Lib.hid (show fixU b k dd = du by unfold fixU; rw [if_pos hbk, ← HU2.out, shu_stop b j du (.inr hl)])
                            clear hl
                            go_wp2_with fail
                            go_roundw
                            case rel => exact ⟨k, s + 1, _, du, rfl, by go_num, by omega, by omega, by omega, hsu, (by rw [HW.out]; exact rowW_drewN _), by rw [← HO.out, HG0.out, HD.out, HU.out]⟩
                            case measure => simp [intOf]; omega
                          · have hl : (!ltN (G j) (G (j - 1))) = false := by assumption
                            rw [Bool.not_eq_false', HG.out, HG.out] at hl
                            go_region
                            all_goals go_wp2_with fail
                            go_roundw
                            case rel =>
                              refine ⟨j + 1, n4 + (nq + 1), Sort.swp du j (j - 1), by go_num, by omega, by omega, by rw [swp_size]; exact hsu, ?_, ?_⟩
                              · repeat rw [HG.out]
                                exact rowW_swap HW.out (nq + 1) (by omega) (by omega)
                              · rw [← HU2.out, shu_go b j du hj hl]
                            case measure => simp [intOf]; omega
                        · have hjz : decide (j < b) = false := decide_eq_false hj
                          have HU := Lib.hid (show fixU b k dd = du by unfold fixU; rw [if_pos hbk, ← HU2.out, shu_stop b j du (.inl hj)])
                          have HW := Lib.hid hw4
                          clear hw4
                          go_wp2_with fail
                          go_roundw
                          case rel => exact ⟨k, s + 1, _, du, rfl, by go_num, by omega, by omega, by omega, hsu, HW.out, by rw [← HO.out, HG0.out, HD.out, HU.out]⟩
                          case measure => simp [intOf]; omega
                    · have hbz : decide ((2 : Int) ≤ (b : Int) - (k : Int)) = false := decide_eq_false (by omega)
                      have HU := Lib.hid (show fixU b k dd = dd by unfold fixU; rw [if_neg (by omega)])
                      go_wp2_with fail
                      go_roundw
                      case rel => exact ⟨k, s + 1, _, dd, rfl, by go_num, by omega, by omega, by omega, hsd, HW5.out, by rw [← HO.out, HG0.out, HD.out, HU.out]⟩
                      case measure => simp [intOf]; omega
                  · go_wp2_with fail
                    go_region
                    all_goals go_wp2_with fail
                    go_roundw
                    case rel =>
                      refine ⟨j - 1, n3 + (nq + 1), Sort.swp dd j (j - 1), by congr 1; omega, by omega, by rw [swp_size]; exact hsd, ?_, ?_⟩
                      · repeat rw [HG.out]
                        exact rowW_swap HW.out (nq + 1) (by omega) (by omega)
                      · rw [← HDn.out, shd_go j dd hj HL.out.symm]
                    case measure => simp [intOf]; omega
                · have hjz : decide ((1 : Int) ≤ (j : Int)) = false := decide_eq_false (by omega)
                  have HD := Lib.hid (show fixD a k d0 = dd by unfold fixD; rw [if_pos hka, ← HDn.out, shd_stop j dd (.inl (by omega))])
                  have HW5 := Lib.hid hw3
                  clear hw3 HDn
                  by_cases hbk : 2 ≤ b - k
                  · have hbz : decide ((2 : Int) ≤ (b : Int) - (k : Int)) = true := decide_eq_true (by omega)
                    go_wp2_with fail
                    go_loopw [10] (fun v wr => supI w blk off b k d dd v wr) (fun v _ => b - (intOf v).toNat)
                    case atStart => exact ⟨k + 1, _, dd, by go_num, Nat.le_refl _, by omega, hsd, HW5.out, rfl⟩
                    case round =>
                      obtain ⟨j, n4, du, rfl, hkj, hjb, hsu, hw4, hU⟩ := hrel
                      have HU2 := Lib.hid hU
                      clear hU
                      by_cases hj : j < b
                      · have hjz : decide (j < b) = true := decide_eq_true hj
                        obtain ⟨G, hG⟩ : ∃ G : Nat → Nat, ∀ t, G t = du[t]! := ⟨fun t => du[t]!, fun _ => rfl⟩
                        have hcw : ∀ t, t < d.size → wr.cell? ⟨blk, off + t, none⟩ = some (.int .u32 ((G t : Nat) : Int)) := fun t ht => by rw [hw4, hG]; exact rowW_cell HH.out hsu ht
                        have hfw : ∀ t, t < d.size → wr.frozen? ⟨blk, off + t, none⟩ = false := fun t ht => by rw [hw4]; exact rowW_frozen HH.out hsu ht
                        have HW := Lib.hid hw4
                        have HG := Lib.hid hG
                        clear hw4 hG
                        go_wp2_with fail
                        go_quiet ((go_at_call 133; exact Calls.quiet_of_same (less32_any _ _ _)))
                        go_wp2_with fail
                        · have hl : (!ltN (G j) (G (j - 1))) = true := by assumption
                          rw [Bool.not_eq_true', HG.out, HG.out] at hl
                          have HU := Lib.hid (show fixU b k dd = du by unfold fixU; rw [if_pos hbk, ← HU2.out, shu_stop b j du (.inr hl)])
                          clear hl
                          go_wp2_with fail
                          go_roundw
                          case rel => exact ⟨k, s + 1, _, du, rfl, by go_num, by omega, by omega, by omega, hsu, (by rw [HW.out]; exact rowW_drewN _), by rw [← HO.out, HG0.out, HD.out, HU.out]⟩
                          case measure => simp [intOf]; omega
                        · have hl : (!ltN (G j) (G (j - 1))) = false := by assumption
                          rw [Bool.not_eq_false', HG.out, HG.out] at hl
                          go_region
                          all_goals go_wp2_with fail
                          go_roundw
                          case rel =>
                            refine ⟨j + 1, n4 + (nq + 1), Sort.swp du j (j - 1), by go_num, by omega, by omega, by rw [swp_size]; exact hsu, ?_, ?_⟩
                            · repeat rw [HG.out]
                              exact rowW_swap HW.out (nq + 1) (by omega) (by omega)
                            · rw [← HU2.out, shu_go b j du hj hl]
                          case measure => simp [intOf]; omega
                      · have hjz : decide (j < b) = false := decide_eq_false hj
                        have HU := Lib.hid (show fixU b k dd = du by unfold fixU; rw [if_pos hbk, ← HU2.out, shu_stop b j du (.inl hj)])
                        have HW := Lib.hid hw4
                        clear hw4
                        go_wp2_with fail
                        go_roundw
                        case rel => exact ⟨k, s + 1, _, du, rfl, by go_num, by omega, by omega, by omega, hsu, HW.out, by rw [← HO.out, HG0.out, HD.out, HU.out]⟩
                        case measure => simp [intOf]; omega
                  · have hbz : decide ((2 : Int) ≤ (b : Int) - (k : Int)) = false := decide_eq_false (by omega)
                    have HU := Lib.hid (show fixU b k dd = dd by unfold fixU; rw [if_neg (by omega)])
                    go_wp2_with fail
                    go_roundw
                    case rel => exact ⟨k, s + 1, _, dd, rfl, by go_num, by omega, by omega, by omega, hsd, HW5.out, by rw [← HO.out, HG0.out, HD.out, HU.out]⟩
                    case measure => simp [intOf]; omega
            · have hkaz : decide ((2 : Int) ≤ (k : Int) - (a : Int)) = false := decide_eq_false (by omega)
              go_region
              repeat rw [HG.out]
              have hsw : ((wr.drewN (nq + 1)).setCell ⟨blk, off + k, none⟩ (.int .u32 ((dk[k - 1]! : Nat) : Int))).setCell ⟨blk, off + (k - 1), none⟩ (.int .u32 ((dk[k]! : Nat) : Int)) = rowW w blk off (n2 + (nq + 1)) (Sort.swp dk k (k - 1)) := rowW_swap HW.out (nq + 1) (by omega) (by omega)
              rw [hsw]
              obtain ⟨d0, hd0⟩ : ∃ d0, d0 = Sort.swp dk k (k - 1) := ⟨_, rfl⟩
              have hs0 : d0.size = d.size := by rw [hd0, swp_size]; exact hsk
              have HG0 := Lib.hid (pins_go a b s i k dk hs HK.out (by omega) h50)
              rw [← hd0] at HG0 ⊢
              clear hsw hd0 hcw hfw HW HG HK hsk
              obtain ⟨dd, rfl⟩ : ∃ dd, dd = d0 := ⟨_, rfl⟩
              have HD := Lib.hid (show fixD a k dd = dd by unfold fixD; rw [if_neg (by omega)])
              have hsd := hs0
              by_cases hbk : 2 ≤ b - k
              · have hbz : decide ((2 : Int) ≤ (b : Int) - (k : Int)) = true := decide_eq_true (by omega)
                go_wp2_with fail
                go_loopw [10] (fun v wr => supI w blk off b k d dd v wr) (fun v _ => b - (intOf v).toNat)
                case atStart => exact ⟨k + 1, _, dd, by go_num, Nat.le_refl _, by omega, hsd, rfl, rfl⟩
                case round =>
                  obtain ⟨j, n4, du, rfl, hkj, hjb, hsu, hw4, hU⟩ := hrel
                  have HU2 := Lib.hid hU
                  clear hU
                  by_cases hj : j < b
                  · have hjz : decide (j < b) = true := decide_eq_true hj
                    obtain ⟨G, hG⟩ : ∃ G : Nat → Nat, ∀ t, G t = du[t]! := ⟨fun t => du[t]!, fun _ => rfl⟩
                    have hcw : ∀ t, t < d.size → wr.cell? ⟨blk, off + t, none⟩ = some (.int .u32 ((G t : Nat) : Int)) := fun t ht => by rw [hw4, hG]; exact rowW_cell HH.out hsu ht
                    have hfw : ∀ t, t < d.size → wr.frozen? ⟨blk, off + t, none⟩ = false := fun t ht => by rw [hw4]; exact rowW_frozen HH.out hsu ht
                    have HW := Lib.hid hw4
                    have HG := Lib.hid hG
                    clear hw4 hG
                    go_wp2_with fail
                    go_quiet ((go_at_call 133; exact Calls.quiet_of_same (less32_any _ _ _)))
                    go_wp2_with fail
                    · have hl : (!ltN (G j) (G (j - 1))) = true := by assumption
                      rw [Bool.not_eq_true', HG.out, HG.out] at hl
                      have HU := Lib.hid (show fixU b k dd = du by unfold fixU; rw [if_pos hbk, ← HU2.out, shu_stop b j du (.inr hl)])
                      clear hl
                      go_wp2_with fail
                      go_roundw
                      case rel => exact ⟨k, s + 1, _, du, rfl, by go_num, by omega, by omega, by omega, hsu, (by rw [HW.out]; exact rowW_drewN _), by rw [← HO.out, HG0.out, HD.out, HU.out]⟩
                      case measure => simp [intOf]; omega
                    · have hl : (!ltN (G j) (G (j - 1))) = false := by assumption
                      rw [Bool.not_eq_false', HG.out, HG.out] at hl
                      go_region
                      all_goals go_wp2_with fail
                      go_roundw
                      case rel =>
                        refine ⟨j + 1, n4 + (nq + 1), Sort.swp du j (j - 1), by go_num, by omega, by omega, by rw [swp_size]; exact hsu, ?_, ?_⟩
                        · repeat rw [HG.out]
                          exact rowW_swap HW.out (nq + 1) (by omega) (by omega)
                        · rw [← HU2.out, shu_go b j du hj hl]
                      case measure => simp [intOf]; omega
                  · have hjz : decide (j < b) = false := decide_eq_false hj
                    have HU := Lib.hid (show fixU b k dd = du by unfold fixU; rw [if_pos hbk, ← HU2.out, shu_stop b j du (.inl hj)])
                    have HW := Lib.hid hw4
                    clear hw4
                    go_wp2_with fail
                    go_roundw
                    case rel => exact ⟨k, s + 1, _, du, rfl, by go_num, by omega, by omega, by omega, hsu, HW.out, by rw [← HO.out, HG0.out, HD.out, HU.out]⟩
                    case measure => simp [intOf]; omega
              · have hbz : decide ((2 : Int) ≤ (b : Int) - (k : Int)) = false := decide_eq_false (by omega)
                have HU := Lib.hid (show fixU b k dd = dd by unfold fixU; rw [if_neg (by omega)])
                go_wp2_with fail
                go_roundw
                case rel => exact ⟨k, s + 1, _, dd, rfl, by go_num, by omega, by omega, by omega, hsd, rfl, by rw [← HO.out, HG0.out, HD.out, HU.out]⟩
                case measure => simp [intOf]; omega
        · have hkz : decide (k < b) = false := decide_eq_false hkl
          have hke : ((k : Int) == (b : Int)) = true := by rw [beq_iff_eq]; omega
          have HK := Lib.hid (HS.out.symm.trans (ss_stop dk b k (.inl hkl)))
          go_wp2_with fail
          go_quiet ((go_at_call 133; exact Calls.quiet_of_same (less32_any _ _ _)))
          go_wp2_with fail
          go_ret
          have hv : Sort.partialInsertionSort ltN d a b = (dk, true) := by
            unfold Sort.partialInsertionSort
            rw [← HO.out, pins_true a b s i dk hs (by rw [HK.out]; omega)]
          rw [hv]
          exact ⟨rfl, n2 + nq, by rw [HW.out]; exact rowW_drewN _⟩
    · obtain rfl : s = 5 := by omega
      go_wp2_with fail
      go_ret
      have hv : Sort.partialInsertionSort ltN d a b = (dk, false) := by
        unfold Sort.partialInsertionSort
        rw [← HO.out]; rfl
      rw [hv]
      exact ⟨rfl, n, HW0.out⟩
end Go.Proofs.Ytlgnpogmgpgdaaa
