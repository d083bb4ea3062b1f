/- Sorting a row of uint32 in place, third part: the partitions. -/
import Derived.Test.YtlgnpogmgpgdaaaSort1
namespace Go.Proofs.Ytlgnpogmgpgdaaa
set_option linter.unusedSimpArgs false
set_option linter.unusedVariables false
set_option maxRecDepth 100000
open Go.RowKit

theorem up_go (p : Nat → Bool) (d : Array Nat) (j i : Nat) (h : i ≤ j) (hp : p d[i]! = true) : Sort.scanUp p d j i = Sort.scanUp p d j (i + 1) := by
  rw [Sort.scanUp, if_pos (by simp [h, hp])]
theorem up_end (p : Nat → Bool) (d : Array Nat) (j i : Nat) (h : ¬ i ≤ j ∨ p d[i]! = false) : Sort.scanUp p d j i = i := by
  rw [Sort.scanUp, if_neg (by rcases h with h | h <;> simp [h])]
theorem dn_go (p : Nat → Bool) (d : Array Nat) (i j : Nat) (h : i ≤ j) (h0 : 0 < j) (hp : p d[j]! = true) : Sort.scanDown p d i j = Sort.scanDown p d i (j - 1) := by
  obtain ⟨k, rfl⟩ : ∃ k, j = k + 1 := ⟨j - 1, by omega⟩
  rw [Sort.scanDown, if_pos (by simp [h, hp])]
  rfl
theorem dn_end (p : Nat → Bool) (d : Array Nat) (i j : Nat) (h : ¬ i ≤ j ∨ p d[j]! = false) : Sort.scanDown p d i j = j := by
  cases j with
  | zero => rfl
  | succ k => rw [Sort.scanDown, if_neg (by rcases h with h | h <;> simp [h])]
theorem pe_break (a i j : Nat) (dk : Array Nat) {i2 j2 : Nat} (hi2 : Sort.scanUp (fun x => !ltN dk[a]! x) dk j i = i2) (hj2 : Sort.scanDown (fun x => ltN dk[a]! x) dk i2 j = j2) (h : j2 < i2) : Sort.partEqLoop ltN a i j dk = (i2, dk) := by
  subst hi2; subst hj2
  rw [Sort.partEqLoop_eq, if_pos h]
theorem pe_go (a i j : Nat) (dk : Array Nat) {i2 j2 : Nat} (hi2 : Sort.scanUp (fun x => !ltN dk[a]! x) dk j i = i2) (hj2 : Sort.scanDown (fun x => ltN dk[a]! x) dk i2 j = j2) (h : ¬ i2 > j2) :
    Sort.partEqLoop ltN a i j dk = Sort.partEqLoop ltN a (i2 + 1) (j2 - 1) (Sort.swp dk i2 j2) := by
  subst hi2; subst hj2
  rw [Sort.partEqLoop_eq, if_neg h]
theorem pt_break (a i j : Nat) (dk : Array Nat) {i2 j2 : Nat} (hi2 : Sort.scanUp (fun x => ltN x dk[a]!) dk j i = i2) (hj2 : Sort.scanDown (fun x => !ltN x dk[a]!) dk i2 j = j2) (h : j2 < i2) : Sort.partLoop ltN a i j dk = (j2, dk) := by
  subst hi2; subst hj2
  rw [Sort.partLoop_eq, if_pos h]
theorem pt_go (a i j : Nat) (dk : Array Nat) {i2 j2 : Nat} (hi2 : Sort.scanUp (fun x => ltN x dk[a]!) dk j i = i2) (hj2 : Sort.scanDown (fun x => !ltN x dk[a]!) dk i2 j = j2) (h : ¬ i2 > j2) :
    Sort.partLoop ltN a i j dk = Sort.partLoop ltN a (i2 + 1) (j2 - 1) (Sort.swp dk i2 j2) := by
  subst hi2; subst hj2
  rw [Sort.partLoop_eq, if_neg h]
theorem pt_first_break (d : Array Nat) (a b pivot : Nat) {dk : Array Nat} {i j i2 j2 : Nat} (hij : i = a + 1 ∧ j = b - 1) (hdk : dk = Sort.swp d a pivot) (hi2 : Sort.scanUp (fun x => ltN x dk[a]!) dk j i = i2) (hj2 : Sort.scanDown (fun x => !ltN x dk[a]!) dk i2 j = j2) (h : j2 < i2) :
    Sort.partition ltN d a b pivot = (j2, true, Sort.swp dk j2 a) := by
  obtain ⟨rfl, rfl⟩ := hij
  subst hdk; subst hi2; subst hj2
  unfold Sort.partition
  simp only []
  rw [if_pos h]
theorem pt_first_go (d : Array Nat) (a b pivot : Nat) {dk : Array Nat} {i j i2 j2 : Nat} (hij : i = a + 1 ∧ j = b - 1) (hdk : dk = Sort.swp d a pivot) (hi2 : Sort.scanUp (fun x => ltN x dk[a]!) dk j i = i2) (hj2 : Sort.scanDown (fun x => !ltN x dk[a]!) dk i2 j = j2) (h : ¬ i2 > j2) :
    Sort.partition ltN d a b pivot = ((Sort.partLoop ltN a (i2 + 1) (j2 - 1) (Sort.swp dk i2 j2)).1, false, Sort.swp (Sort.partLoop ltN a (i2 + 1) (j2 - 1) (Sort.swp dk i2 j2)).2 (Sort.partLoop ltN a (i2 + 1) (j2 - 1) (Sort.swp dk i2 j2)).1 a) := by
  obtain ⟨rfl, rfl⟩ := hij
  subst hdk; subst hi2; subst hj2
  unfold Sort.partition
  simp only []
  rw [if_neg h]
theorem lt_of_tests {G : Nat → Nat} {a i j : Nat} {b1 b2 : Bool} (h1 : b1 = false) (h2 : b2 = true) (e : i = j → b1 = b2) (h : i ≤ j) : i < j := by
  rcases Nat.lt_or_ge i j with hl | hl
  · exact hl
  · have := e (by omega)
    rw [h1, h2] at this
    cases this

def scU (w : World) (blk off : Nat) (dk : Array Nat) (p : Nat → Bool) (i j : Nat) (v : Value) (wr : World) : Prop :=
  ∃ i' n : Nat, v = .int .i64 i' ∧ i ≤ i' ∧ i' ≤ j + 1 ∧ wr = rowW w blk off n dk ∧ Sort.scanUp p dk j i' = Sort.scanUp p dk j i
def scD (w : World) (blk off : Nat) (dk : Array Nat) (p : Nat → Bool) (i j : Nat) (v : Value) (wr : World) : Prop :=
  ∃ j' n : Nat, v = .int .i64 j' ∧ j' ≤ j ∧ i ≤ j' + 1 ∧ wr = rowW w blk off n dk ∧ Sort.scanDown p dk i j' = Sort.scanDown p dk i j
def peI (w : World) (blk off a b pivot : Nat) (d : Array Nat) (v1 v2 : Value) (wr : World) : Prop :=
  ∃ (i j n : Nat) (dk : Array Nat), v1 = .int .i64 i ∧ v2 = .int .i64 j ∧ a < i ∧ i ≤ j + 1 ∧ j < b ∧ dk.size = d.size ∧ wr = rowW w blk off n dk ∧ Sort.partEqLoop ltN a i j dk = Sort.partEqLoop ltN a (a + 1) (b - 1) (Sort.swp d a pivot)
def ptI (w : World) (blk off a i0 j0 b : Nat) (d d0 : Array Nat) (v1 v2 : Value) (wr : World) : Prop :=
  ∃ (i j n : Nat) (dk : Array Nat), v1 = .int .i64 i ∧ v2 = .int .i64 j ∧ a < i ∧ i ≤ j + 1 ∧ j < b ∧ dk.size = d.size ∧ wr = rowW w blk off n dk ∧ Sort.partLoop ltN a i j dk = Sort.partLoop ltN a i0 j0 d0

set_option maxHeartbeats 6400000 in
set_option maxRecDepth 100000 in
theorem peq32_any (blk off cap a b pivot : Nat) (d : Array Nat) (w : World) (hH : Sort.Holds e32 w blk off d) (hap : a ≤ pivot) (hpb : pivot < b) (hb : b ≤ d.size) (hsz : d.size < 4611686018427387904) :
    Calls Try.prog 134 #[.slice (some ⟨blk, off, none⟩) d.size cap, .int .i64 a, .int .i64 b, .int .i64 pivot] w fun e w' =>
      e = .returned (.int .i64 ((Sort.partitionEqual ltN d a b pivot).1 : Nat)) ∧ ∃ n, w' = rowW w blk off n (Sort.partitionEqual ltN d a b pivot).2 := by
  have HH := Lib.hid hH
  clear hH
  have hw0 := rowW_start HH.out
  have hds : d.size = d.size := rfl
  obtain ⟨G, hG⟩ : ∃ G : Nat → Nat, ∀ t, G t = d[t]! := ⟨fun t => d[t]!, fun _ => rfl⟩
  have hcw : ∀ t, t < d.size → w.cell? ⟨blk, off + t, none⟩ = some (.int .u32 ((G t : Nat) : Int)) := fun t ht => by rw [hw0, hG]; exact rowW_cell HH.out hds ht
  have hfw : ∀ t, t < d.size → w.frozen? ⟨blk, off + t, none⟩ = false := fun t ht => by rw [hw0]; exact rowW_frozen HH.out hds ht
  have HW := Lib.hid hw0
  have HG := Lib.hid hG
  clear hw0 hG
  clear hds
  have cq : w.cell? ⟨blk, off + pivot, none⟩ = some (.int .u32 ((G pivot : Nat) : Int)) := hcw pivot (by omega)
  obtain ⟨v', hy'⟩ := cell?_setCell_some (w := w) (p := ⟨blk, off + a, none⟩) (x := .int .u32 ((G pivot : Nat) : Int)) (q := ⟨blk, off + pivot, none⟩) cq
  have hlx : a < d.size := by omega
  have hly : pivot < d.size := by omega
  go_enter Try.func134, Try.ntmps134
  go_wp2_with fail
  go_region
  all_goals go_wp2_with fail
  repeat rw [HG.out]
  have hsw : ((w.setCell ⟨blk, off + a, none⟩ (.int .u32 ((d[pivot]! : Nat) : Int))).setCell ⟨blk, off + pivot, none⟩ (.int .u32 ((d[a]! : Nat) : Int))).drew = rowW w blk off (0 + 1) (Sort.swp d a pivot) := rowW_swap HW.out 1 hlx hly
  rw [hsw]
  clear hsw hcw hfw HW HG cq hy' v' G
  go_loopw [9, 10] (fun v1 v2 wr => peI w blk off a b pivot d v1 v2 wr) (fun v1 v2 _ => (intOf v2).toNat + 1 - (intOf v1).toNat)
  case atStart => exact ⟨a + 1, b - 1, 0 + 1, Sort.swp d a pivot, by go_num, by go_num, by omega, by omega, by omega, swp_size _ _ _, rfl, rfl⟩
  case round =>
    obtain ⟨i, j, n, dk, rfl, rfl, hai, hij, hjb, hs, hw, heq⟩ := hrel
    have HE := Lib.hid heq
    have HW0 := Lib.hid hw
    clear heq hw
    go_wp2_with fail
    go_loopw [9] (fun v wr => scU w blk off dk (fun x => !ltN dk[a]! x) i j v wr) (fun v _ => j + 1 - (intOf v).toNat)
    case atStart => exact ⟨i, _, by first | rfl | go_num, Nat.le_refl _, hij, HW0.out, rfl⟩
    case round =>
      obtain ⟨i', n1, rfl, hii, hij', hw1, hsc⟩ := hrel
      have HSC := Lib.hid hsc
      clear hsc HW0
      obtain ⟨G, hG⟩ : ∃ G : Nat → Nat, ∀ t, G t = dk[t]! := ⟨fun t => dk[t]!, fun _ => rfl⟩
      have hcw : ∀ t, t < d.size → wr.cell? ⟨blk, off + t, none⟩ = some (.int .u32 ((G t : Nat) : Int)) := fun t ht => by rw [hw1, hG]; exact rowW_cell HH.out hs ht
      have hfw : ∀ t, t < d.size → wr.frozen? ⟨blk, off + t, none⟩ = false := fun t ht => by rw [hw1]; exact rowW_frozen HH.out hs ht
      have HW := Lib.hid hw1
      have HG := Lib.hid hG
      clear hw1 hG
      by_cases hle : i' ≤ j
      · have hlz : decide (i' ≤ j) = true := decide_eq_true hle
        go_wp2_with fail
        go_quiet ((go_at_call 133; exact Calls.quiet_of_same (less32_any _ _ _)))
        go_wp2_with fail
        · have ht : (!ltN (G a) (G i')) = true := by assumption
          rw [HG.out, HG.out] at ht
          go_roundw
          case rel => exact ⟨i' + 1, n1 + nq, by go_num, by omega, by omega, by rw [HW.out]; exact rowW_drewN _, (up_go (fun x => !ltN dk[a]! x) dk j i' hle ht).symm.trans HSC.out⟩
          case measure => simp [intOf]; omega
        · have ht : (!ltN (G a) (G i')) = false := by assumption
          rw [HG.out, HG.out] at ht
          have HI2 := Lib.hid (HSC.out.symm.trans (up_end (fun x => !ltN dk[a]! x) dk j i' (.inr ht)))
          have HT := Lib.hid ht
          have HW2 := Lib.hid (show wr.drewN nq = rowW w blk off (n1 + nq) dk by rw [HW.out]; exact rowW_drewN _)
          clear ht HSC hcw hfw HW HG hlz
          go_loopw [10] (fun v wr => scD w blk off dk (fun x => ltN dk[a]! x) i' j v wr) (fun v _ => (intOf v).toNat)
          case atStart => exact ⟨j, n1 + nq, rfl, Nat.le_refl _, by omega, HW2.out, rfl⟩
          case round =>
            clear HW2
            obtain ⟨j', n2, rfl, hjj, hij2, hw3, hsd⟩ := hrel
            have HSD := Lib.hid hsd
            clear hsd
            obtain ⟨G, hG⟩ : ∃ G : Nat → Nat, ∀ t, G t = dk[t]! := ⟨fun t => dk[t]!, fun _ => rfl⟩
            have hcw : ∀ t, t < d.size → wr.cell? ⟨blk, off + t, none⟩ = some (.int .u32 ((G t : Nat) : Int)) := fun t ht => by rw [hw3, hG]; exact rowW_cell HH.out hs ht
            have hfw : ∀ t, t < d.size → wr.frozen? ⟨blk, off + t, none⟩ = false := fun t ht => by rw [hw3]; exact rowW_frozen HH.out hs ht
            have HW := Lib.hid hw3
            have HG := Lib.hid hG
            clear hw3 hG
            by_cases hle2 : i' ≤ j'
            · have hlz : decide (i' ≤ j') = true := decide_eq_true hle2
              go_wp2_with fail
              go_quiet ((go_at_call 133; exact Calls.quiet_of_same (less32_any _ _ _)))
              go_wp2_with fail
              · have ht : ltN (G a) (G j') = true := by assumption
                rw [HG.out, HG.out] at ht
                go_roundw
                case rel => exact ⟨j' - 1, n2 + nq, by go_num, by omega, by omega, by rw [HW.out]; exact rowW_drewN _, (dn_go (fun x => ltN dk[a]! x) dk i' j' hle2 (by omega) ht).symm.trans HSD.out⟩
                case measure => simp [intOf]; omega
              · have ht : ltN (G a) (G j') = false := by assumption
                rw [HG.out, HG.out] at ht
                have HJ2 := Lib.hid (HSD.out.symm.trans (dn_end (fun x => ltN dk[a]! x) dk i' j' (.inr ht)))
                have hst : i' < j' := by
                  rcases Nat.lt_or_ge i' j' with h | h
                  · exact h
                  · have e : i' = j' := by omega
                    have h2 := HT.out
                    rw [e] at h2
                    simp only [Bool.not_eq_false', Bool.not_eq_true'] at h2 ht
                    rw [h2] at ht
                    cases ht
                clear ht hlz
                go_wp2_with fail
                go_region
                all_goals go_wp2_with fail
                have hsw : ((wr.drewN (nq + 1)).setCell ⟨blk, off + i', none⟩ (.int .u32 ((dk[j']! : Nat) : Int))).setCell ⟨blk, off + j', none⟩ (.int .u32 ((dk[i']! : Nat) : Int)) = rowW w blk off (n2 + (nq + 1)) (Sort.swp dk i' j') := rowW_swap HW.out (nq + 1) (by omega) (by omega)
                go_roundw
                case rel =>
                  refine ⟨i' + 1, j' - 1, n2 + (nq + 1), Sort.swp dk i' j', by go_num, by go_num, by omega, by omega, by omega, by rw [swp_size]; exact hs, ?_, ?_⟩
                  · repeat rw [HG.out]
                    exact hsw
                  · rw [← HE.out, pe_go a i j dk HI2.out HJ2.out (by omega)]
                case measure => simp [intOf]; omega
            · have hlz : decide (i' ≤ j') = false := decide_eq_false hle2
              have HJ2 := Lib.hid (HSD.out.symm.trans (dn_end (fun x => ltN dk[a]! x) dk i' j' (.inl hle2)))
              go_wp2_with fail
              go_quiet ((go_at_call 133; exact Calls.quiet_of_same (less32_any _ _ _)))
              go_wp2_with fail
              go_wp2_with fail
              go_ret
              have e := pe_break a i j dk HI2.out HJ2.out (by omega)
              refine ⟨?_, n2 + nq, ?_⟩
              · unfold Sort.partitionEqual; rw [← HE.out, e]; rfl
              · unfold Sort.partitionEqual; rw [← HE.out, e, HW.out, rowW_drewN]
      · have hlz : decide (i' ≤ j) = false := decide_eq_false hle
        have HI2 := Lib.hid (HSC.out.symm.trans (up_end (fun x => !ltN dk[a]! x) dk j i' (.inl hle)))
        go_wp2_with fail
        go_quiet ((go_at_call 133; exact Calls.quiet_of_same (less32_any _ _ _)))
        go_wp2_with fail
        have HW2 := Lib.hid (show wr.drewN nq = rowW w blk off (n1 + nq) dk by rw [HW.out]; exact rowW_drewN _)
        clear HSC hcw hfw HW HG hlz
        go_loopw [10] (fun v wr => scD w blk off dk (fun x => ltN dk[a]! x) i' j v wr) (fun v _ => (intOf v).toNat)
        case atStart => exact ⟨j, n1 + nq, rfl, Nat.le_refl _, by omega, HW2.out, rfl⟩
        case round =>
          clear HW2
          obtain ⟨j', n2, rfl, hjj, hij2, hw3, hsd⟩ := hrel
          have HSD := Lib.hid hsd
          clear hsd
          obtain ⟨G, hG⟩ : ∃ G : Nat → Nat, ∀ t, G t = dk[t]! := ⟨fun t => dk[t]!, fun _ => rfl⟩
          have hcw : ∀ t, t < d.size → wr.cell? ⟨blk, off + t, none⟩ = some (.int .u32 ((G t : Nat) : Int)) := fun t ht => by rw [hw3, hG]; exact rowW_cell HH.out hs ht
          have hfw : ∀ t, t < d.size → wr.frozen? ⟨blk, off + t, none⟩ = false := fun t ht => by rw [hw3]; exact rowW_frozen HH.out hs ht
          have HW := Lib.hid hw3
          have HG := Lib.hid hG
          clear hw3 hG
          have hle2 : ¬ i' ≤ j' := by omega
          have hlz : decide (i' ≤ j') = false := decide_eq_false hle2
          have HJ2 := Lib.hid (HSD.out.symm.trans (dn_end (fun x => ltN dk[a]! x) dk i' j' (.inl hle2)))
          go_wp2_with fail
          go_quiet ((go_at_call 133; exact Calls.quiet_of_same (less32_any _ _ _)))
          go_wp2_with fail
          go_wp2_with fail
          go_ret
          have e := pe_break a i j dk HI2.out HJ2.out (by omega)
          refine ⟨?_, n2 + nq, ?_⟩
          · unfold Sort.partitionEqual; rw [← HE.out, e]; rfl
          · unfold Sort.partitionEqual; rw [← HE.out, e, HW.out, rowW_drewN]

set_option maxHeartbeats 12800000 in
set_option maxRecDepth 100000 in
theorem part32_any (blk off cap a b pivot : Nat) (d : Array Nat) (w : World) (hH : Sort.Holds e32 w blk off d) (hap : a ≤ pivot) (hpb : pivot < b) (hb : b ≤ d.size) (hsz : d.size < 4611686018427387904) :
    Calls Try.prog 135 #[.slice (some ⟨blk, off, none⟩) d.size cap, .int .i64 a, .int .i64 b, .int .i64 pivot] w fun e w' =>
      e = .returned (.tuple #[.int .i64 ((Sort.partition ltN d a b pivot).1 : Nat), .bool (Sort.partition ltN d a b pivot).2.1]) ∧ ∃ n, w' = rowW w blk off n (Sort.partition ltN d a b pivot).2.2 := by
  have HH := Lib.hid hH
  clear hH
  have hw0 := rowW_start HH.out
  have hds : d.size = d.size := rfl
  obtain ⟨G, hG⟩ : ∃ G : Nat → Nat, ∀ t, G t = d[t]! := ⟨fun t => d[t]!, fun _ => rfl⟩
  have hcw : ∀ t, t < d.size → w.cell? ⟨blk, off + t, none⟩ = some (.int .u32 ((G t : Nat) : Int)) := fun t ht => by rw [hw0, hG]; exact rowW_cell HH.out hds ht
  have hfw : ∀ t, t < d.size → w.frozen? ⟨blk, off + t, none⟩ = false := fun t ht => by rw [hw0]; exact rowW_frozen HH.out hds ht
  have HW := Lib.hid hw0
  have HG := Lib.hid hG
  clear hw0 hG
  clear hds
  have cq : w.cell? ⟨blk, off + pivot, none⟩ = some (.int .u32 ((G pivot : Nat) : Int)) := hcw pivot (by omega)
  obtain ⟨v', hy'⟩ := cell?_setCell_some (w := w) (p := ⟨blk, off + a, none⟩) (x := .int .u32 ((G pivot : Nat) : Int)) (q := ⟨blk, off + pivot, none⟩) cq
  have hlx : a < d.size := by omega
  have hly : pivot < d.size := by omega
  go_enter Try.func135, Try.ntmps135
  go_wp2_with fail
  go_region
  all_goals go_wp2_with fail
  repeat rw [HG.out]
  have hsw : ((w.setCell ⟨blk, off + a, none⟩ (.int .u32 ((d[pivot]! : Nat) : Int))).setCell ⟨blk, off + pivot, none⟩ (.int .u32 ((d[a]! : Nat) : Int))).drew = rowW w blk off (0 + 1) (Sort.swp d a pivot) := rowW_swap HW.out 1 hlx hly
  rw [hsw]
  clear hsw hcw hfw HW HG cq hy' v' G
  obtain ⟨dk, hdk⟩ : ∃ dk, dk = Sort.swp d a pivot := ⟨_, rfl⟩
  obtain ⟨i, hi⟩ : ∃ i, i = a + 1 := ⟨_, rfl⟩
  obtain ⟨j, hj⟩ : ∃ j, j = b - 1 := ⟨_, rfl⟩
  have hs : dk.size = d.size := by rw [hdk]; exact swp_size _ _ _
  have hai : a < i := by omega
  have hij : i ≤ j + 1 := by omega
  have hjb : j < b := by omega
  rw [show ((a : Int) + 1) = ((i : Nat) : Int) by omega, show ((b : Int) - 1) = ((j : Nat) : Int) by omega, ← hdk]
  have HW0 := Lib.hid (rfl : rowW w blk off (0 + 1) dk = rowW w blk off (0 + 1) dk)
  have HDK := Lib.hid hdk
  have HIJ := Lib.hid (And.intro hi hj)
  clear hdk hi hj
  go_loopw [10] (fun v wr => scU w blk off dk (fun x => ltN x dk[a]!) i j v wr) (fun v _ => j + 1 - (intOf v).toNat)
  case atStart => exact ⟨i, _, by first | rfl | go_num, Nat.le_refl _, hij, HW0.out, rfl⟩
  case round =>
    obtain ⟨i', n1, rfl, hii, hij', hw1, hsc⟩ := hrel
    have HSC := Lib.hid hsc
    clear hsc HW0
    obtain ⟨G, hG⟩ : ∃ G : Nat → Nat, ∀ t, G t = dk[t]! := ⟨fun t => dk[t]!, fun _ => rfl⟩
    have hcw : ∀ t, t < d.size → wr.cell? ⟨blk, off + t, none⟩ = some (.int .u32 ((G t : Nat) : Int)) := fun t ht => by rw [hw1, hG]; exact rowW_cell HH.out hs ht
    have hfw : ∀ t, t < d.size → wr.frozen? ⟨blk, off + t, none⟩ = false := fun t ht => by rw [hw1]; exact rowW_frozen HH.out hs ht
    have HW := Lib.hid hw1
    have HG := Lib.hid hG
    clear hw1 hG
    by_cases hle : i' ≤ j
    · have hlz : decide (i' ≤ j) = true := decide_eq_true hle
      go_wp2_with fail
      go_quiet ((go_at_call 133; exact Calls.quiet_of_same (less32_any _ _ _)))
      go_wp2_with fail
      · have ht : ltN (G i') (G a) = true := by assumption
        rw [HG.out, HG.out] at ht
        go_roundw
        case rel => exact ⟨i' + 1, n1 + nq, by go_num, by omega, by omega, by rw [HW.out]; exact rowW_drewN _, (up_go (fun x => ltN x dk[a]!) dk j i' hle ht).symm.trans HSC.out⟩
        case measure => simp [intOf]; omega
      · have ht : ltN (G i') (G a) = false := by assumption
        rw [HG.out, HG.out] at ht
        have HI2 := Lib.hid (HSC.out.symm.trans (up_end (fun x => ltN x dk[a]!) dk j i' (.inr ht)))
        have HT := Lib.hid ht
        have HW2 := Lib.hid (show wr.drewN nq = rowW w blk off (n1 + nq) dk by rw [HW.out]; exact rowW_drewN _)
        clear ht HSC hcw hfw HW HG hlz
        go_loopw [11] (fun v wr => scD w blk off dk (fun x => !ltN x dk[a]!) i' j v wr) (fun v _ => (intOf v).toNat)
        case atStart => exact ⟨j, n1 + nq, rfl, Nat.le_refl _, by omega, HW2.out, rfl⟩
        case round =>
          clear HW2
          obtain ⟨j', n2, rfl, hjj, hij2, hw3, hsd⟩ := hrel
          have HSD := Lib.hid hsd
          clear hsd
          obtain ⟨G, hG⟩ : ∃ G : Nat → Nat, ∀ t, G t = dk[t]! := ⟨fun t => dk[t]!, fun _ => rfl⟩
          have hcw : ∀ t, t < d.size → wr.cell? ⟨blk, off + t, none⟩ = some (.int .u32 ((G t : Nat) : Int)) := fun t ht => by rw [hw3, hG]; exact rowW_cell HH.out hs ht
          have hfw : ∀ t, t < d.size → wr.frozen? ⟨blk, off + t, none⟩ = false := fun t ht => by rw [hw3]; exact rowW_frozen HH.out hs ht
          have HW := Lib.hid hw3
          have HG := Lib.hid hG
          clear hw3 hG
          by_cases hle2 : i' ≤ j'
          · have hlz : decide (i' ≤ j') = true := decide_eq_true hle2
            go_wp2_with fail
            go_quiet ((go_at_call 133; exact Calls.quiet_of_same (less32_any _ _ _)))
            go_wp2_with fail
            · have ht : (!ltN (G j') (G a)) = true := by assumption
              rw [HG.out, HG.out] at ht
              go_roundw
              case rel => exact ⟨j' - 1, n2 + nq, by go_num, by omega, by omega, by rw [HW.out]; exact rowW_drewN _, (dn_go (fun x => !ltN x dk[a]!) dk i' j' hle2 (by omega) ht).symm.trans HSD.out⟩
              case measure => simp [intOf]; omega
            · have ht : (!ltN (G j') (G a)) = false := by assumption
              rw [HG.out, HG.out] at ht
              have HJ2 := Lib.hid (HSD.out.symm.trans (dn_end (fun x => !ltN x dk[a]!) dk i' j' (.inr ht)))
              have hst : i' < j' := by
                rcases Nat.lt_or_ge i' j' with h | h
                · exact h
                · have e : i' = j' := by omega
                  have h2 := HT.out
                  rw [e] at h2
                  simp only [Bool.not_eq_false', Bool.not_eq_true'] at h2 ht
                  rw [h2] at ht
                  cases ht
              clear ht hlz
              go_wp2_with fail
              go_region
              all_goals go_wp2_with fail
              have hsw : ((wr.drewN (nq + 1)).setCell ⟨blk, off + i', none⟩ (.int .u32 ((dk[j']! : Nat) : Int))).setCell ⟨blk, off + j', none⟩ (.int .u32 ((dk[i']! : Nat) : Int)) = rowW w blk off (n2 + (nq + 1)) (Sort.swp dk i' j') := rowW_swap HW.out (nq + 1) (by omega) (by omega)
              repeat rw [HG.out]
              rw [hsw]
              clear hsw
              have he1 := pt_first_go d a b pivot HIJ.out HDK.out HI2.out HJ2.out (by omega)
              obtain ⟨dm, hdm⟩ : ∃ dm, dm = Sort.swp dk i' j' := ⟨_, rfl⟩
              obtain ⟨i3, hi3⟩ : ∃ x, x = i' + 1 := ⟨_, rfl⟩
              obtain ⟨j3, hj3⟩ : ∃ x, x = j' - 1 := ⟨_, rfl⟩
              have hsm : dm.size = d.size := by rw [hdm, swp_size]; exact hs
              rw [← hdm, ← hi3, ← hj3] at he1
              rw [show ((i' : Int) + 1) = ((i3 : Nat) : Int) by omega, show ((j' : Int) - 1) = ((j3 : Nat) : Int) by omega, ← hdm]
              have HE1 := Lib.hid he1
              have hai3 : a < i3 := by omega
              have hij3 : i3 ≤ j3 + 1 := by omega
              have hjb3 : j3 < b := by omega
              clear he1 hcw hfw HW HG HI2 HJ2 HSD HT hdm hi3 hj3 hle hle2 hst hij hij' hij2 hii hjj hai hjb hs HDK HIJ
              go_loopw [10, 11] (fun v1 v2 wr => ptI w blk off a i3 j3 b d dm v1 v2 wr) (fun v1 v2 _ => (intOf v2).toNat + 1 - (intOf v1).toNat)
              case atStart => exact ⟨i3, j3, _, dm, rfl, rfl, hai3, hij3, hjb3, hsm, rfl, rfl⟩
              case round =>
                clear hai3 hij3 hjb3
                obtain ⟨i, j, n3, dk, rfl, rfl, hai, hij, hjb, hs, hw5, heq⟩ := hrel
                have HE := Lib.hid heq
                have HW0 := Lib.hid hw5
                clear heq hw5
                go_wp2_with fail
                go_loopw [10] (fun v wr => scU w blk off dk (fun x => ltN x dk[a]!) i j v wr) (fun v _ => j + 1 - (intOf v).toNat)
                case atStart => exact ⟨i, _, by first | rfl | go_num, Nat.le_refl _, hij, HW0.out, rfl⟩
                case round =>
                  obtain ⟨i', n1, rfl, hii, hij', hw1, hsc⟩ := hrel
                  have HSC := Lib.hid hsc
                  clear hsc HW0
                  obtain ⟨G, hG⟩ : ∃ G : Nat → Nat, ∀ t, G t = dk[t]! := ⟨fun t => dk[t]!, fun _ => rfl⟩
                  have hcw : ∀ t, t < d.size → wr.cell? ⟨blk, off + t, none⟩ = some (.int .u32 ((G t : Nat) : Int)) := fun t ht => by rw [hw1, hG]; exact rowW_cell HH.out hs ht
                  have hfw : ∀ t, t < d.size → wr.frozen? ⟨blk, off + t, none⟩ = false := fun t ht => by rw [hw1]; exact rowW_frozen HH.out hs ht
                  have HW := Lib.hid hw1
                  have HG := Lib.hid hG
                  clear hw1 hG
                  by_cases hle : i' ≤ j
                  · have hlz : decide (i' ≤ j) = true := decide_eq_true hle
                    go_wp2_with fail
                    go_quiet ((go_at_call 133; exact Calls.quiet_of_same (less32_any _ _ _)))
                    go_wp2_with fail
                    · have ht : ltN (G i') (G a) = true := by assumption
                      rw [HG.out, HG.out] at ht
                      go_roundw
                      case rel => exact ⟨i' + 1, n1 + nq, by go_num, by omega, by omega, by rw [HW.out]; exact rowW_drewN _, (up_go (fun x => ltN x dk[a]!) dk j i' hle ht).symm.trans HSC.out⟩
                      case measure => simp [intOf]; omega
                    · have ht : ltN (G i') (G a) = false := by assumption
                      rw [HG.out, HG.out] at ht
                      have HI2 := Lib.hid (HSC.out.symm.trans (up_end (fun x => ltN x dk[a]!) dk j i' (.inr ht)))
                      have HT := Lib.hid ht
                      have HW2 := Lib.hid (show wr.drewN nq = rowW w blk off (n1 + nq) dk by rw [HW.out]; exact rowW_drewN _)
                      clear ht HSC hcw hfw HW HG hlz
                      go_loopw [11] (fun v wr => scD w blk off dk (fun x => !ltN x dk[a]!) i' j v wr) (fun v _ => (intOf v).toNat)
                      case atStart => exact ⟨j, n1 + nq, rfl, Nat.le_refl _, by omega, HW2.out, rfl⟩
                      case round =>
                        clear HW2
                        obtain ⟨j', n2, rfl, hjj, hij2, hw3, hsd⟩ := hrel
                        have HSD := Lib.hid hsd
                        clear hsd
                        obtain ⟨G, hG⟩ : ∃ G : Nat → Nat, ∀ t, G t = dk[t]! := ⟨fun t => dk[t]!, fun _ => rfl⟩
                        have hcw : ∀ t, t < d.size → wr.cell? ⟨blk, off + t, none⟩ = some (.int .u32 ((G t : Nat) : Int)) := fun t ht => by rw [hw3, hG]; exact rowW_cell HH.out hs ht
                        have hfw : ∀ t, t < d.size → wr.frozen? ⟨blk, off + t, none⟩ = false := fun t ht => by rw [hw3]; exact rowW_frozen HH.out hs ht
                        have HW := Lib.hid hw3
                        have HG := Lib.hid hG
                        clear hw3 hG
                        by_cases hle2 : i' ≤ j'
                        · have hlz : decide (i' ≤ j') = true := decide_eq_true hle2
                          go_wp2_with fail
                          go_quiet ((go_at_call 133; exact Calls.quiet_of_same (less32_any _ _ _)))
                          go_wp2_with fail
                          · have ht : (!ltN (G j') (G a)) = true := by assumption
                            rw [HG.out, HG.out] at ht
                            go_roundw
                            case rel => exact ⟨j' - 1, n2 + nq, by go_num, by omega, by omega, by rw [HW.out]; exact rowW_drewN _, (dn_go (fun x => !ltN x dk[a]!) dk i' j' hle2 (by omega) ht).symm.trans HSD.out⟩
                            case measure => simp [intOf]; omega
                          · have ht : (!ltN (G j') (G a)) = false := by assumption
                            rw [HG.out, HG.out] at ht
                            have HJ2 := Lib.hid (HSD.out.symm.trans (dn_end (fun x => !ltN x dk[a]!) dk i' j' (.inr ht)))
                            have hst : i' < j' := by
                              rcases Nat.lt_or_ge i' j' with h | h
                              · exact h
                              · have e : i' = j' := by omega
                                have h2 := HT.out
                                rw [e] at h2
                                simp only [Bool.not_eq_false', Bool.not_eq_true'] at h2 ht
                                rw [h2] at ht
                                cases ht
                            clear ht hlz
                            go_wp2_with fail
                            go_region
                            all_goals go_wp2_with fail
                            have hsw : ((wr.drewN (nq + 1)).setCell ⟨blk, off + i', none⟩ (.int .u32 ((dk[j']! : Nat) : Int))).setCell ⟨blk, off + j', none⟩ (.int .u32 ((dk[i']! : Nat) : Int)) = rowW w blk off (n2 + (nq + 1)) (Sort.swp dk i' j') := rowW_swap HW.out (nq + 1) (by omega) (by omega)
                            go_roundw
                            case rel =>
                              refine ⟨i' + 1, j' - 1, n2 + (nq + 1), Sort.swp dk i' j', by go_num, by go_num, by omega, by omega, by omega, by rw [swp_size]; exact hs, ?_, ?_⟩
                              · repeat rw [HG.out]
                                exact hsw
                              · rw [← pt_go a i j dk HI2.out HJ2.out (by omega)]; exact HE.out
                            case measure => simp [intOf]; omega
                        · have hlz : decide (i' ≤ j') = false := decide_eq_false hle2
                          have HJ2 := Lib.hid (HSD.out.symm.trans (dn_end (fun x => !ltN x dk[a]!) dk i' j' (.inl hle2)))
                          go_wp2_with fail
                          go_quiet ((go_at_call 133; exact Calls.quiet_of_same (less32_any _ _ _)))
                          go_wp2_with fail
                          obtain ⟨W3, hW3⟩ : ∃ W3, W3 = wr.drewN nq := ⟨_, rfl⟩
                          have HW3 := Lib.hid (show W3 = rowW w blk off (n2 + nq) dk by rw [hW3, HW.out]; exact rowW_drewN _)
                          have hc3 : ∀ t, t < d.size → W3.cell? ⟨blk, off + t, none⟩ = some (.int .u32 ((G t : Nat) : Int)) := fun t ht => by rw [hW3]; exact hcw t ht
                          have hf3 : ∀ t, t < d.size → W3.frozen? ⟨blk, off + t, none⟩ = false := fun t ht => by rw [hW3]; exact hfw t ht
                          rw [← hW3]
                          clear hW3 hcw hfw HW
                          have cq : W3.cell? ⟨blk, off + a, none⟩ = some (.int .u32 ((G a : Nat) : Int)) := hc3 a (by omega)
                          obtain ⟨v3, hy3⟩ := cell?_setCell_some (w := W3) (p := ⟨blk, off + j', none⟩) (x := .int .u32 ((G a : Nat) : Int)) (q := ⟨blk, off + a, none⟩) cq
                          have hlj : j' < d.size := by omega
                          have hla : a < d.size := by omega
                          go_wp2_with fail
                          go_region
                          all_goals go_wp2_with fail
                          all_goals go_ret2
                          have e := pt_break a i j dk HI2.out HJ2.out (by omega)
                          have e2 := HE1.out
                          rw [← HE.out, e] at e2
                          refine ⟨by rw [e2]; rfl, n2 + nq + 1, ?_⟩
                          rw [e2]
                          repeat rw [HG.out]
                          exact rowW_swap HW3.out 1 (by omega) (by omega)
                  · have hlz : decide (i' ≤ j) = false := decide_eq_false hle
                    have HI2 := Lib.hid (HSC.out.symm.trans (up_end (fun x => ltN x dk[a]!) dk j i' (.inl hle)))
                    go_wp2_with fail
                    go_quiet ((go_at_call 133; exact Calls.quiet_of_same (less32_any _ _ _)))
                    go_wp2_with fail
                    have HW2 := Lib.hid (show wr.drewN nq = rowW w blk off (n1 + nq) dk by rw [HW.out]; exact rowW_drewN _)
                    clear HSC hcw hfw HW HG hlz
                    go_loopw [11] (fun v wr => scD w blk off dk (fun x => !ltN x dk[a]!) i' j v wr) (fun v _ => (intOf v).toNat)
                    case atStart => exact ⟨j, n1 + nq, rfl, Nat.le_refl _, by omega, HW2.out, rfl⟩
                    case round =>
                      clear HW2
                      obtain ⟨j', n2, rfl, hjj, hij2, hw3, hsd⟩ := hrel
                      have HSD := Lib.hid hsd
                      clear hsd
                      obtain ⟨G, hG⟩ : ∃ G : Nat → Nat, ∀ t, G t = dk[t]! := ⟨fun t => dk[t]!, fun _ => rfl⟩
                      have hcw : ∀ t, t < d.size → wr.cell? ⟨blk, off + t, none⟩ = some (.int .u32 ((G t : Nat) : Int)) := fun t ht => by rw [hw3, hG]; exact rowW_cell HH.out hs ht
                      have hfw : ∀ t, t < d.size → wr.frozen? ⟨blk, off + t, none⟩ = false := fun t ht => by rw [hw3]; exact rowW_frozen HH.out hs ht
                      have HW := Lib.hid hw3
                      have HG := Lib.hid hG
                      clear hw3 hG
                      have hle2 : ¬ i' ≤ j' := by omega
                      have hlz : decide (i' ≤ j') = false := decide_eq_false hle2
                      have HJ2 := Lib.hid (HSD.out.symm.trans (dn_end (fun x => !ltN x dk[a]!) dk i' j' (.inl hle2)))
                      go_wp2_with fail
                      go_quiet ((go_at_call 133; exact Calls.quiet_of_same (less32_any _ _ _)))
                      go_wp2_with fail
                      obtain ⟨W3, hW3⟩ : ∃ W3, W3 = wr.drewN nq := ⟨_, rfl⟩
                      have HW3 := Lib.hid (show W3 = rowW w blk off (n2 + nq) dk by rw [hW3, HW.out]; exact rowW_drewN _)
                      have hc3 : ∀ t, t < d.size → W3.cell? ⟨blk, off + t, none⟩ = some (.int .u32 ((G t : Nat) : Int)) := fun t ht => by rw [hW3]; exact hcw t ht
                      have hf3 : ∀ t, t < d.size → W3.frozen? ⟨blk, off + t, none⟩ = false := fun t ht => by rw [hW3]; exact hfw t ht
                      rw [← hW3]
                      clear hW3 hcw hfw HW
                      have cq : W3.cell? ⟨blk, off + a, none⟩ = some (.int .u32 ((G a : Nat) : Int)) := hc3 a (by omega)
                      obtain ⟨v3, hy3⟩ := cell?_setCell_some (w := W3) (p := ⟨blk, off + j', none⟩) (x := .int .u32 ((G a : Nat) : Int)) (q := ⟨blk, off + a, none⟩) cq
                      have hlj : j' < d.size := by omega
                      have hla : a < d.size := by omega
                      go_wp2_with fail
                      go_region
                      all_goals go_wp2_with fail
                      all_goals go_ret2
                      have e := pt_break a i j dk HI2.out HJ2.out (by omega)
                      have e2 := HE1.out
                      rw [← HE.out, e] at e2
                      refine ⟨by rw [e2]; rfl, n2 + nq + 1, ?_⟩
                      rw [e2]
                      repeat rw [HG.out]
                      exact rowW_swap HW3.out 1 (by omega) (by omega)
          · have hlz : decide (i' ≤ j') = false := decide_eq_false hle2
            have HJ2 := Lib.hid (HSD.out.symm.trans (dn_end (fun x => !ltN x dk[a]!) dk i' j' (.inl hle2)))
            go_wp2_with fail
            go_quiet ((go_at_call 133; exact Calls.quiet_of_same (less32_any _ _ _)))
            go_wp2_with fail
            obtain ⟨W3, hW3⟩ : ∃ W3, W3 = wr.drewN nq := ⟨_, rfl⟩
            have HW3 := Lib.hid (show W3 = rowW w blk off (n2 + nq) dk by rw [hW3, HW.out]; exact rowW_drewN _)
            have hc3 : ∀ t, t < d.size → W3.cell? ⟨blk, off + t, none⟩ = some (.int .u32 ((G t : Nat) : Int)) := fun t ht => by rw [hW3]; exact hcw t ht
            have hf3 : ∀ t, t < d.size → W3.frozen? ⟨blk, off + t, none⟩ = false := fun t ht => by rw [hW3]; exact hfw t ht
            rw [← hW3]
            clear hW3 hcw hfw HW
            have cq : W3.cell? ⟨blk, off + a, none⟩ = some (.int .u32 ((G a : Nat) : Int)) := hc3 a (by omega)
            obtain ⟨v3, hy3⟩ := cell?_setCell_some (w := W3) (p := ⟨blk, off + j', none⟩) (x := .int .u32 ((G a : Nat) : Int)) (q := ⟨blk, off + a, none⟩) cq
            have hlj : j' < d.size := by omega
            have hla : a < d.size := by omega
            go_wp2_with fail
            go_region
            all_goals go_wp2_with fail
            all_goals go_ret2
            have e := pt_first_break d a b pivot HIJ.out HDK.out HI2.out HJ2.out (by omega)
            refine ⟨by rw [e]; rfl, n2 + nq + 1, ?_⟩
            rw [e]
            repeat rw [HG.out]
            exact rowW_swap HW3.out 1 (by omega) (by omega)
    · have hlz : decide (i' ≤ j) = false := decide_eq_false hle
      have HI2 := Lib.hid (HSC.out.symm.trans (up_end (fun x => ltN x dk[a]!) dk j i' (.inl hle)))
      go_wp2_with fail
      go_quiet ((go_at_call 133; exact Calls.quiet_of_same (less32_any _ _ _)))
      go_wp2_with fail
      have HW2 := Lib.hid (show wr.drewN nq = rowW w blk off (n1 + nq) dk by rw [HW.out]; exact rowW_drewN _)
      clear HSC hcw hfw HW HG hlz
      go_loopw [11] (fun v wr => scD w blk off dk (fun x => !ltN x dk[a]!) i' j v wr) (fun v _ => (intOf v).toNat)
      case atStart => exact ⟨j, n1 + nq, rfl, Nat.le_refl _, by omega, HW2.out, rfl⟩
      case round =>
        clear HW2
        obtain ⟨j', n2, rfl, hjj, hij2, hw3, hsd⟩ := hrel
        have HSD := Lib.hid hsd
        clear hsd
        obtain ⟨G, hG⟩ : ∃ G : Nat → Nat, ∀ t, G t = dk[t]! := ⟨fun t => dk[t]!, fun _ => rfl⟩
        have hcw : ∀ t, t < d.size → wr.cell? ⟨blk, off + t, none⟩ = some (.int .u32 ((G t : Nat) : Int)) := fun t ht => by rw [hw3, hG]; exact rowW_cell HH.out hs ht
        have hfw : ∀ t, t < d.size → wr.frozen? ⟨blk, off + t, none⟩ = false := fun t ht => by rw [hw3]; exact rowW_frozen HH.out hs ht
        have HW := Lib.hid hw3
        have HG := Lib.hid hG
        clear hw3 hG
        have hle2 : ¬ i' ≤ j' := by omega
        have hlz : decide (i' ≤ j') = false := decide_eq_false hle2
        have HJ2 := Lib.hid (HSD.out.symm.trans (dn_end (fun x => !ltN x dk[a]!) dk i' j' (.inl hle2)))
        go_wp2_with fail
        go_quiet ((go_at_call 133; exact Calls.quiet_of_same (less32_any _ _ _)))
        go_wp2_with fail
        obtain ⟨W3, hW3⟩ : ∃ W3, W3 = wr.drewN nq := ⟨_, rfl⟩
        have HW3 := Lib.hid (show W3 = rowW w blk off (n2 + nq) dk by rw [hW3, HW.out]; exact rowW_drewN _)
        have hc3 : ∀ t, t < d.size → W3.cell? ⟨blk, off + t, none⟩ = some (.int .u32 ((G t : Nat) : Int)) := fun t ht => by rw [hW3]; exact hcw t ht
        have hf3 : ∀ t, t < d.size → W3.frozen? ⟨blk, off + t, none⟩ = false := fun t ht => by rw [hW3]; exact hfw t ht
        rw [← hW3]
        clear hW3 hcw hfw HW
        have cq : W3.cell? ⟨blk, off + a, none⟩ = some (.int .u32 ((G a : Nat) : Int)) := hc3 a (by omega)
        obtain ⟨v3, hy3⟩ := cell?_setCell_some (w := W3) (p := ⟨blk, off + j', none⟩) (x := .int .u32 ((G a : Nat) : Int)) (q := ⟨blk, off + a, none⟩) cq
        have hlj : j' < d.size := by omega
        have hla : a < d.size := by omega
        go_wp2_with fail
        go_region
        all_goals go_wp2_with fail
        all_goals go_ret2
        have e := pt_first_break d a b pivot HIJ.out HDK.out HI2.out HJ2.out (by omega)
        refine ⟨by rw [e]; rfl, n2 + nq + 1, ?_⟩
        rw [e]
        repeat rw [HG.out]
        exact rowW_swap HW3.out 1 (by omega) (by omega)
end Go.Proofs.Ytlgnpogmgpgdaaa
