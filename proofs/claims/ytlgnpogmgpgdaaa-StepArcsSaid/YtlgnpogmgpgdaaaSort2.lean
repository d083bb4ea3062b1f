/- Sorting a row of uint32 in place, second part: the heap. -/
import Derived.Test.YtlgnpogmgpgdaaaSort1
namespace Go.Proofs.Ytlgnpogmgpgdaaa
set_option linter.unusedSimpArgs false
set_option linter.unusedVariables false
set_option maxRecDepth 100000
open Go.RowKit

theorem sd_end {hi F root : Nat} (d : Array Nat) (h : hi ≤ 2 * root + 1) : Sort.siftDown ltN hi F root d = d := by rw [Sort.siftDown, dif_pos h]
theorem sd_r0 {hi F root : Nat} (d : Array Nat) (h1 : 2 * root + 2 < hi) (h2 : ltN d[F + (2 * root + 1)]! d[F + (2 * root + 2)]! = true) (h3 : ltN d[F + root]! d[F + (2 * root + 2)]! = false) : Sort.siftDown ltN hi F root d = d := by
  rw [Sort.siftDown, dif_neg (by omega), show F + (2 * root + 1) + 1 = F + (2 * root + 2) by omega, h2, h3]
  simp [show 2 * root + 1 + 1 < hi by omega]
theorem sd_r1 {hi F root : Nat} (d : Array Nat) (h1 : 2 * root + 2 < hi) (h2 : ltN d[F + (2 * root + 1)]! d[F + (2 * root + 2)]! = true) (h3 : ltN d[F + root]! d[F + (2 * root + 2)]! = true) :
    Sort.siftDown ltN hi F root d = Sort.siftDown ltN hi F (2 * root + 2) (Sort.swp d (F + root) (F + (2 * root + 2))) := by
  rw [Sort.siftDown, dif_neg (by omega), show F + (2 * root + 1) + 1 = F + (2 * root + 2) by omega, h2, h3]
  simp [show 2 * root + 1 + 1 < hi by omega]
theorem sd_l0 {hi F root : Nat} (d : Array Nat) (h0 : 2 * root + 1 < hi) (h1 : 2 * root + 2 < hi → ltN d[F + (2 * root + 1)]! d[F + (2 * root + 2)]! = false) (h3 : ltN d[F + root]! d[F + (2 * root + 1)]! = false) : Sort.siftDown ltN hi F root d = d := by
  rw [Sort.siftDown, dif_neg (by omega), show F + (2 * root + 1) + 1 = F + (2 * root + 2) by omega, h3]
  by_cases h : 2 * root + 2 < hi
  · simp [h1 h]
  · simp [show ¬ 2 * root + 1 + 1 < hi by omega]
theorem sd_l1 {hi F root : Nat} (d : Array Nat) (h0 : 2 * root + 1 < hi) (h1 : 2 * root + 2 < hi → ltN d[F + (2 * root + 1)]! d[F + (2 * root + 2)]! = false) (h3 : ltN d[F + root]! d[F + (2 * root + 1)]! = true) :
    Sort.siftDown ltN hi F root d = Sort.siftDown ltN hi F (2 * root + 1) (Sort.swp d (F + root) (F + (2 * root + 1))) := by
  rw [Sort.siftDown, dif_neg (by omega), show F + (2 * root + 1) + 1 = F + (2 * root + 2) by omega, h3]
  by_cases h : 2 * root + 2 < hi
  · simp [h1 h]
  · simp [show ¬ 2 * root + 1 + 1 < hi by omega]
theorem sd_size (hi F : Nat) : ∀ (n root : Nat) (d : Array Nat), hi - root ≤ n → (Sort.siftDown ltN hi F root d).size = d.size := by
  intro n
  induction n with
  | zero => intro root d h; rw [Sort.siftDown, dif_pos (by omega)]
  | succ n ih =>
    intro root d h
    rw [Sort.siftDown]
    split
    · rfl
    · split
      · split
        · rfl
        · split
          · rw [ih _ _ (by omega), swp_size]
          · rfl
      · split
        · rfl
        · rw [ih _ _ (by omega), swp_size]

def sdI (w : World) (blk off lo hi first : Nat) (d : Array Nat) (k : Nat) (v : Value) (wr : World) : Prop :=
  ∃ (root : Nat) (dk : Array Nat) (n : Nat), v = .int .i64 root ∧ root ≤ hi ∧ hi - root ≤ k ∧ dk.size = d.size ∧ wr = rowW w blk off n dk ∧ Sort.siftDown ltN hi first root dk = Sort.siftDown ltN hi first lo d
set_option maxHeartbeats 3200000 in
set_option maxRecDepth 100000 in
theorem sift32_any (blk off cap lo hi first : Nat) (d : Array Nat) (w : World) (hH : Sort.Holds e32 w blk off d) (hlo : lo ≤ hi) (hb : first + hi ≤ d.size) (hsz : d.size < 4611686018427387904) :
    Calls Try.prog 142 #[.slice (some ⟨blk, off, none⟩) d.size cap, .int .i64 lo, .int .i64 hi, .int .i64 first] w fun e w' =>
      e = .returned (.tuple #[]) ∧ ∃ n, w' = rowW w blk off n (Sort.siftDown ltN hi first lo d) := by
  have HH := Lib.hid hH
  clear hH
  go_enter Try.func142, Try.ntmps142
  go_wp2_with fail
  go_loopg [8] (hi - lo) (fun k s8 wr => sdI w blk off lo hi first d k s8 wr)
  case atStart => exact ⟨lo, d, 0, rfl, hlo, Nat.le_refl _, rfl, rowW_start HH.out, rfl⟩
  case round =>
    obtain ⟨root, dk, n, rfl, hr, hk, hds, hwr, heq⟩ := hrel
    have HQ := Lib.hid heq
    clear heq
    by_cases h0 : hi ≤ 2 * root + 1
    · have h0z : decide ((hi : Int) ≤ 2 * (root : Int) + 1) = true := decide_eq_true (by omega)
      have HW := Lib.hid hwr
      clear hwr
      go_wp2_with fail
      (try simp only [Exit.inBlock, Exit.then])
      go_end0
      refine ⟨rfl, n, ?_⟩
      rw [HW.out, ← HQ.out, sd_end dk h0]
    · have h0z : decide ((hi : Int) ≤ 2 * (root : Int) + 1) = false := decide_eq_false (by omega)
      obtain ⟨G, hG⟩ : ∃ G : Nat → Nat, ∀ t, G t = dk[t]! := ⟨fun t => dk[t]!, fun _ => rfl⟩
      have hcw : ∀ t, t < d.size → wr.cell? ⟨blk, off + t, none⟩ = some (.int .u32 ((G t : Nat) : Int)) := fun t ht => by rw [hwr, hG]; exact rowW_cell HH.out hds ht
      have hfw : ∀ t, t < d.size → wr.frozen? ⟨blk, off + t, none⟩ = false := fun t ht => by rw [hwr]; exact rowW_frozen HH.out hds ht
      have HW := Lib.hid hwr
      have HG := Lib.hid hG
      clear hwr hG
      by_cases h1 : 2 * root + 2 < hi
      · have h1z : decide (2 * (root : Int) + 1 + 1 < (hi : Int)) = true := decide_eq_true (by omega)
        go_wp2_with fail
        go_quiet ((go_at_call 133; exact Calls.quiet_of_same (less32_any _ _ _)))
        go_wp2_with fail
        · have hL : ltN (G (first + 2 * root + 1)) (G (first + 2 * root + 2)) = true := by assumption
          have hL2 : ltN dk[first + (2 * root + 1)]! dk[first + (2 * root + 2)]! = true := by rw [← HG.out, ← HG.out]; exact hL
          clear hL
          obtain ⟨wq, hwq⟩ : ∃ wq, wq = wr.drewN nq := ⟨_, rfl⟩
          have hwq2 : wq = rowW w blk off (n + nq) dk := by rw [hwq, HW.out]; exact rowW_drewN _
          have hcq : ∀ t, t < d.size → wq.cell? ⟨blk, off + t, none⟩ = some (.int .u32 ((G t : Nat) : Int)) := fun t ht => by rw [hwq]; exact hcw t ht
          have hfq : ∀ t, t < d.size → wq.frozen? ⟨blk, off + t, none⟩ = false := fun t ht => by rw [hwq]; exact hfw t ht
          rw [← hwq]
          clear hcw hfw hwq HW
          obtain ⟨m, hm⟩ : ∃ m, m = n + nq := ⟨_, rfl⟩
          rw [← hm] at hwq2
          have HW := Lib.hid hwq2
          clear hm hwq2 nq
          go_quiet ((go_at_call 133; exact Calls.quiet_of_same (less32_any _ _ _)))
          go_wp2_with fail
          · have hS : ltN (G (first + root)) (G (first + 2 * root + 2)) = false := by
              have h : (!ltN (G (first + root)) (G (first + 2 * root + 2))) = true := by assumption
              rw [Bool.not_eq_true'] at h
              exact h
            rw [HG.out, HG.out] at hS
            (try simp only [Exit.inBlock, Exit.then])
            refine bodyPost_ret (results_none rfl _ _ _) rfl ?_
            refine ⟨rfl, m + nq, ?_⟩
            rw [HW.out, rowW_drewN, ← HQ.out, sd_r0 dk h1 hL2 hS]
          · have hS : ltN (G (first + root)) (G (first + 2 * root + 2)) = true := by
              have h : (!ltN (G (first + root)) (G (first + 2 * root + 2))) = false := by assumption
              rw [Bool.not_eq_false'] at h
              exact h
            rw [HG.out, HG.out] at hS
            go_region
            all_goals go_wp2_with fail
            go_roundg (hi - (2 * root + 2))
            case measure => omega
            case rel =>
              refine ⟨2 * root + 2, Sort.swp dk (first + root) (first + (2 * root + 2)), m + (nq + 1), by simp <;> omega, by omega, Nat.le_refl _, by rw [swp_size]; exact hds, ?_, ?_⟩
              · rw [HG.out, HG.out]
                exact rowW_swap HW.out (nq + 1) (by omega) (by omega)
              · rw [← HQ.out, sd_r1 dk h1 hL2 hS]
        · have hL : ltN (G (first + 2 * root + 1)) (G (first + 2 * root + 2)) = false := by assumption
          have hL2 : ltN dk[first + (2 * root + 1)]! dk[first + (2 * root + 2)]! = false := by rw [← HG.out, ← HG.out]; exact hL
          clear hL
          obtain ⟨wq, hwq⟩ : ∃ wq, wq = wr.drewN nq := ⟨_, rfl⟩
          have hwq2 : wq = rowW w blk off (n + nq) dk := by rw [hwq, HW.out]; exact rowW_drewN _
          have hcq : ∀ t, t < d.size → wq.cell? ⟨blk, off + t, none⟩ = some (.int .u32 ((G t : Nat) : Int)) := fun t ht => by rw [hwq]; exact hcw t ht
          have hfq : ∀ t, t < d.size → wq.frozen? ⟨blk, off + t, none⟩ = false := fun t ht => by rw [hwq]; exact hfw t ht
          rw [← hwq]
          clear hcw hfw hwq HW
          obtain ⟨m, hm⟩ : ∃ m, m = n + nq := ⟨_, rfl⟩
          rw [← hm] at hwq2
          have HW := Lib.hid hwq2
          clear hm hwq2 nq
          go_quiet ((go_at_call 133; exact Calls.quiet_of_same (less32_any _ _ _)))
          go_wp2_with fail
          · have hS : ltN (G (first + root)) (G (first + 2 * root + 1)) = false := by
              have h : (!ltN (G (first + root)) (G (first + 2 * root + 1))) = true := by assumption
              rw [Bool.not_eq_true'] at h
              exact h
            rw [HG.out, HG.out] at hS
            (try simp only [Exit.inBlock, Exit.then])
            refine bodyPost_ret (results_none rfl _ _ _) rfl ?_
            refine ⟨rfl, m + nq, ?_⟩
            rw [HW.out, rowW_drewN, ← HQ.out, sd_l0 dk (by omega) (fun _ => hL2) hS]
          · have hS : ltN (G (first + root)) (G (first + 2 * root + 1)) = true := by
              have h : (!ltN (G (first + root)) (G (first + 2 * root + 1))) = false := by assumption
              rw [Bool.not_eq_false'] at h
              exact h
            rw [HG.out, HG.out] at hS
            go_region
            all_goals go_wp2_with fail
            go_roundg (hi - (2 * root + 1))
            case measure => omega
            case rel =>
              refine ⟨2 * root + 1, Sort.swp dk (first + root) (first + (2 * root + 1)), m + (nq + 1), by simp <;> omega, by omega, Nat.le_refl _, by rw [swp_size]; exact hds, ?_, ?_⟩
              · rw [HG.out, HG.out]
                exact rowW_swap HW.out (nq + 1) (by omega) (by omega)
              · rw [← HQ.out, sd_l1 dk (by omega) (fun _ => hL2) hS]
      · have h1z : decide (2 * (root : Int) + 1 + 1 < (hi : Int)) = false := decide_eq_false (by omega)
        go_wp2_with fail
        go_quiet ((go_at_call 133; exact Calls.quiet_of_same (less32_any _ _ _)))
        go_wp2_with fail
        obtain ⟨wq, hwq⟩ : ∃ wq, wq = wr.drewN nq := ⟨_, rfl⟩
        have hwq2 : wq = rowW w blk off (n + nq) dk := by rw [hwq, HW.out]; exact rowW_drewN _
        have hcq : ∀ t, t < d.size → wq.cell? ⟨blk, off + t, none⟩ = some (.int .u32 ((G t : Nat) : Int)) := fun t ht => by rw [hwq]; exact hcw t ht
        have hfq : ∀ t, t < d.size → wq.frozen? ⟨blk, off + t, none⟩ = false := fun t ht => by rw [hwq]; exact hfw t ht
        rw [← hwq]
        clear hcw hfw hwq HW
        obtain ⟨m, hm⟩ : ∃ m, m = n + nq := ⟨_, rfl⟩
        rw [← hm] at hwq2
        have HW := Lib.hid hwq2
        clear hm hwq2 nq
        go_quiet ((go_at_call 133; exact Calls.quiet_of_same (less32_any _ _ _)))
        go_wp2_with fail
        · have hS : ltN (G (first + root)) (G (first + 2 * root + 1)) = false := by
            have h : (!ltN (G (first + root)) (G (first + 2 * root + 1))) = true := by assumption
            rw [Bool.not_eq_true'] at h
            exact h
          rw [HG.out, HG.out] at hS
          (try simp only [Exit.inBlock, Exit.then])
          refine bodyPost_ret (results_none rfl _ _ _) rfl ?_
          refine ⟨rfl, m + nq, ?_⟩
          rw [HW.out, rowW_drewN, ← HQ.out, sd_l0 dk (by omega) (fun h => absurd h h1) hS]
        · have hS : ltN (G (first + root)) (G (first + 2 * root + 1)) = true := by
            have h : (!ltN (G (first + root)) (G (first + 2 * root + 1))) = false := by assumption
            rw [Bool.not_eq_false'] at h
            exact h
          rw [HG.out, HG.out] at hS
          go_region
          all_goals go_wp2_with fail
          go_roundg (hi - (2 * root + 1))
          case measure => omega
          case rel =>
            refine ⟨2 * root + 1, Sort.swp dk (first + root) (first + (2 * root + 1)), m + (nq + 1), by simp <;> omega, by omega, Nat.le_refl _, by rw [swp_size]; exact hds, ?_, ?_⟩
            · rw [HG.out, HG.out]
              exact rowW_swap HW.out (nq + 1) (by omega) (by omega)
            · rw [← HQ.out, sd_l1 dk (by omega) (fun h => absurd h h1) hS]

theorem half_nat {a b : Nat} (hab : a ≤ b) : ((b : Int) - (a : Int) - 1).tdiv 2 = (((b - a - 1) / 2 + 1 : Nat) : Int) - 1 := by
  rcases Nat.lt_or_ge a b with h | h
  · rw [Int.tdiv_eq_ediv_of_nonneg (by omega)]
    omega
  · obtain rfl : a = b := by omega
    rw [show ((a : Int) - (a : Int) - 1) = -1 by omega]
    simp
def hbI (w : World) (blk off a b : Nat) (d : Array Nat) (k : Nat) (v : Value) (wr : World) : Prop :=
  v = .int .i64 ((k : Int) - 1) ∧ k ≤ (b - a - 1) / 2 + 1 ∧ ∃ (dk : Array Nat) (n : Nat), dk.size = d.size ∧ wr = rowW w blk off n dk ∧ Sort.heapBuild ltN (b - a) a k dk = Sort.heapBuild ltN (b - a) a ((b - a - 1) / 2 + 1) d
def hpI (w : World) (blk off a b : Nat) (d dk : Array Nat) (k : Nat) (v : Value) (wr : World) : Prop :=
  v = .int .i64 ((k : Int) - 1) ∧ k ≤ b - a ∧ ∃ (dj : Array Nat) (n : Nat), dj.size = d.size ∧ wr = rowW w blk off n dj ∧ Sort.heapPop ltN a k dj = Sort.heapPop ltN a (b - a) dk
set_option maxHeartbeats 3200000 in
set_option maxRecDepth 100000 in
theorem heap32_any (blk off cap a b : Nat) (d : Array Nat) (w : World) (hH : Sort.Holds e32 w blk off d) (hab : a ≤ b) (hb : b ≤ d.size) (hsz : d.size < 4611686018427387904) :
    Calls Try.prog 128 #[.slice (some ⟨blk, off, none⟩) d.size cap, .int .i64 a, .int .i64 b] w fun e w' =>
      e = .returned (.tuple #[]) ∧ ∃ n, w' = rowW w blk off n (Sort.heapSort ltN d a b) := by
  have HH := Lib.hid hH
  clear hH
  have ecast : ((b - a : Nat) : Int) = (b : Int) - (a : Int) := by omega
  have EC := Lib.hid ecast
  clear ecast
  go_enter Try.func128, Try.ntmps128
  go_wp2_with fail
  go_loopg [9] ((b - a - 1) / 2 + 1) (fun k s9 wr => hbI w blk off a b d k s9 wr)
  case atStart => exact ⟨by rw [half_nat hab], Nat.le_refl _, d, 0, rfl, rowW_start HH.out, rfl⟩
  case round =>
    obtain ⟨rfl, hkk, dk, n, hds, hwr, heq⟩ := hrel
    have HQ := Lib.hid heq
    have HW := Lib.hid hwr
    clear hwr heq
    cases gk with
    | zero =>
      clear hkk
      go_wp2_with fail
      go_loopg [10] (b - a) (fun k s10 wr2 => hpI w blk off a b d dk k s10 wr2)
      case atStart => exact ⟨by rw [EC.out], Nat.le_refl _, dk, n, hds, HW.out, rfl⟩
      case round =>
        obtain ⟨rfl, hkk, dj, n2, hdj, hwr2, heq2⟩ := hrel
        have HQ2 := Lib.hid heq2
        clear HW heq2
        cases gk with
        | zero =>
          have HW := Lib.hid hwr2
          clear hwr2
          go_wp2_with fail
          go_end0
          refine ⟨rfl, n2, ?_⟩
          have e : dj = Sort.heapSort ltN d a b := by rw [Sort.heapSort, ← HQ.out]; exact HQ2.out
          rw [← e]; exact HW.out
        | succ k =>
          obtain ⟨G, hG⟩ : ∃ G : Nat → Nat, ∀ t, G t = dj[t]! := ⟨fun t => dj[t]!, fun _ => rfl⟩
          have hcw : ∀ t, t < d.size → wr.cell? ⟨blk, off + t, none⟩ = some (.int .u32 ((G t : Nat) : Int)) := fun t ht => by rw [hwr2, hG]; exact rowW_cell HH.out hdj ht
          have hfw : ∀ t, t < d.size → wr.frozen? ⟨blk, off + t, none⟩ = false := fun t ht => by rw [hwr2]; exact rowW_frozen HH.out hdj ht
          have HW := Lib.hid hwr2
          have HG := Lib.hid hG
          clear hwr2 hG
          rcases Nat.eq_zero_or_pos k with hk0 | hkp
          · subst hk0
            go_wp2_with fail
            go_region
            all_goals go_wp2_with fail
            repeat rw [HG.out]
            have hsw : ((wr.setCell ⟨blk, off + a, none⟩ (.int .u32 ((dj[a]! : Nat) : Int))).setCell ⟨blk, off + (a), none⟩ (.int .u32 ((dj[a]! : Nat) : Int))).drew = rowW w blk off (n2 + 1) (Sort.swp dj a (a)) := rowW_swap HW.out 1 (i := a) (j := a) (by omega) (by omega)
            rw [hsw]
            have hcall := sift32_any blk off cap 0 0 a (Sort.swp dj a (a)) (rowW w blk off (n2 + 1) (Sort.swp dj a (a))) (rowW_holds HH.out (by rw [swp_size]; exact hdj)) (Nat.zero_le _) (by rw [swp_size]; omega) (by rw [swp_size]; omega)
            rw [swp_size, hdj] at hcall
            refine hcall.mono ?_
            clear hcall hsw
            rintro e w1 ⟨rfl, m, rfl⟩
            rw [rowW_rowW _ _ (sd_size _ _ _ _ _ (Nat.le_refl _))]
            go_wp2_with fail
            go_roundg (0)
            case measure => omega
            case rel => exact ⟨by simp, by omega, Sort.siftDown ltN (0) a 0 (Sort.swp dj a (a)), n2 + 1 + m, by rw [sd_size _ _ _ _ _ (Nat.le_refl _), swp_size]; exact hdj, rfl, HQ2.out⟩
          · go_wp2_with fail
            go_region
            all_goals go_wp2_with fail
            repeat rw [HG.out]
            have hsw : ((wr.setCell ⟨blk, off + a, none⟩ (.int .u32 ((dj[a + k]! : Nat) : Int))).setCell ⟨blk, off + (a + k), none⟩ (.int .u32 ((dj[a]! : Nat) : Int))).drew = rowW w blk off (n2 + 1) (Sort.swp dj a (a + k)) := rowW_swap HW.out 1 (i := a) (j := a + k) (by omega) (by omega)
            rw [hsw]
            have hcall := sift32_any blk off cap 0 k a (Sort.swp dj a (a + k)) (rowW w blk off (n2 + 1) (Sort.swp dj a (a + k))) (rowW_holds HH.out (by rw [swp_size]; exact hdj)) (Nat.zero_le _) (by rw [swp_size]; omega) (by rw [swp_size]; omega)
            rw [swp_size, hdj] at hcall
            refine hcall.mono ?_
            clear hcall hsw
            rintro e w1 ⟨rfl, m, rfl⟩
            rw [rowW_rowW _ _ (sd_size _ _ _ _ _ (Nat.le_refl _))]
            go_wp2_with fail
            go_roundg (k)
            case measure => omega
            case rel => exact ⟨by simp, by omega, Sort.siftDown ltN (k) a 0 (Sort.swp dj a (a + k)), n2 + 1 + m, by rw [sd_size _ _ _ _ _ (Nat.le_refl _), swp_size]; exact hdj, rfl, HQ2.out⟩
    | succ k =>
      have hcall := sift32_any blk off cap k (b - a) a dk wr (by rw [HW.out]; exact rowW_holds HH.out hds) (by omega) (by omega) (by omega)
      rw [EC.out, hds] at hcall
      have HC := Lib.hid hcall
      clear hcall
      go_wp2_with (go_at_call 142; refine HC.out.mono ?_; rintro e w1 ⟨rfl, m, rfl⟩)
      go_roundg k
      case measure => omega
      case rel =>
        refine ⟨by simp, by omega, Sort.siftDown ltN (b - a) a k dk, n + m, by rw [sd_size _ _ _ _ _ (Nat.le_refl _)]; exact hds, ?_, HQ.out⟩
        rw [HW.out, rowW_rowW _ _ (sd_size _ _ _ _ _ (Nat.le_refl _))]
end Go.Proofs.Ytlgnpogmgpgdaaa
