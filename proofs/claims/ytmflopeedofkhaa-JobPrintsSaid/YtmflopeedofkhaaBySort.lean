/- Texts merged into one: Sort1, Sort2, Sort3, Sort4, Sort5, Sort6, Sort7, SortNil, Sort8. -/
import Derived.WalkKit
import Derived.ProofKit
import Derived.Lib.Hide
import Derived.RegionTactic
import Derived.Deep.Draws
import Derived.Deep.QuietTactic
import Derived.Deep.LoopGhost
import Derived.Deep.RegionWith
import Derived.Deep.DeepCutAuto
import Derived.BigQuiet
import Derived.BigCall
import Derived.BigGuard
import Derived.CellFam
import Derived.Sort.AssemblyPlain
import Derived.Sort.Grow
import Derived.Sort.AtCall
import Derived.Test.YtmflopeedofkhaaProg
import Derived.Lib.BitFns
import Derived.Lib.Strings
import Derived.Lib.Small
import Derived.Lib.Walk
import Derived.Laws.Bits64
import Derived.Laws.Bits64b
import Derived.Laws.BitsAllLaws
import Derived.Lib.SliceRun
import Derived.Deep.Upon
import Derived.LoopN
namespace Go.Proofs.Ytmflopeedofkhaa
set_option linter.unusedSimpArgs false
set_option linter.unusedVariables false
set_option maxRecDepth 100000
open Go.RowKit

abbrev e32 : Nat → Value := fun x => Value.int .u32 (x : Nat)
def ltN (x y : Nat) : Bool := decide (x < y)
theorem ltN_swo : Sort.SWO ltN where
  irrefl x := by simp [ltN]
  trans x y z h1 h2 := by simp only [ltN, decide_eq_true_eq] at *; omega
  ntrans x y z h1 h2 := by simp only [ltN, decide_eq_false_iff_not] at *; omega

/-- the world w, n draws on, the row holding d -/
def rowW (w : World) (blk off n : Nat) (d : Array Nat) : World := Sort.putRow e32 (Sort.ahead w n) blk off d
section
variable {w wr : World} {blk off n : Nat} {d dk : Array Nat}
theorem rowW_start (h : Sort.Holds e32 w blk off d) : w = rowW w blk off 0 d := (Sort.putRow_self e32 w blk off d h).symm
theorem rowW_drewN (q : Nat) : (rowW w blk off n d).drewN q = rowW w blk off (n + q) d := by
  show Sort.ahead (Sort.putRow e32 (Sort.ahead w n) blk off d) q = Sort.putRow e32 (Sort.ahead w (n + q)) blk off d
  rw [Sort.putRow_ahead e32 w n, Sort.ahead_ahead, ← Sort.putRow_ahead]
theorem rowW_drew : (rowW w blk off n d).drew = rowW w blk off (n + 1) d := rowW_drewN 1
theorem rowW_holds (h : Sort.Holds e32 w blk off d) (hs : dk.size = d.size) : Sort.Holds e32 (rowW w blk off n dk) blk off dk :=
  Sort.holds_putRow e32 _ blk off d dk (Sort.holds_ahead e32 w n blk off d h) hs
theorem rowW_cell (h : Sort.Holds e32 w blk off d) (hs : dk.size = d.size) {t : Nat} (ht : t < d.size) : (rowW w blk off n dk).cell? ⟨blk, off + t, none⟩ = some (.int .u32 ((dk[t]! : Nat) : Int)) :=
  (rowW_holds (n := n) h hs t (by omega)).1
theorem rowW_frozen (h : Sort.Holds e32 w blk off d) (hs : dk.size = d.size) {t : Nat} (ht : t < d.size) : (rowW w blk off n dk).frozen? ⟨blk, off + t, none⟩ = false :=
  (rowW_holds (n := n) h hs t (by omega)).2
theorem rowW_rowW (m : Nat) (d' : Array Nat) (hs : d'.size = dk.size) : rowW (rowW w blk off n dk) blk off m d' = rowW w blk off (n + m) d' :=
  Sort.putRow_ahead_putRow e32 w n m blk off dk d' hs
theorem rowW_swap (hwr : wr = rowW w blk off n dk) (q : Nat) {i j : Nat} (hi : i < dk.size) (hj : j < dk.size) :
    ((wr.drewN q).setCell ⟨blk, off + i, none⟩ (.int .u32 ((dk[j]! : Nat) : Int))).setCell ⟨blk, off + j, none⟩ (.int .u32 ((dk[i]! : Nat) : Int)) = rowW w blk off (n + q) (Sort.swp dk i j) := by
  subst hwr
  rw [rowW_drewN]
  exact Sort.putRow_swp e32 _ blk off dk i j hi hj
theorem swp_size (d : Array Nat) (i j : Nat) : (Sort.swp d i j).size = d.size := by simp [Sort.swp]
end


set_option maxHeartbeats 1000000 in
theorem isNaN32_any (x : Nat) (w : World) : Calls Try.prog 84 #[.int .u32 (x : Nat)] w fun e w' => e = .returned (.bool false) ∧ w' = w := by
  go_enter Try.func84, Try.ntmps84
  go_wp2
  go_ret
  exact ⟨by simp, rfl⟩
set_option maxHeartbeats 1000000 in
theorem less32_any (x y : Nat) (w : World) : Calls Try.prog 67 #[.int .u32 (x : Nat), .int .u32 (y : Nat)] w fun e w' => e = .returned (.bool (ltN x y)) ∧ w' = w := by
  go_enter Try.func67, Try.ntmps67
  go_wp2_with (go_at_call 84; refine (isNaN32_any _ _).mono ?_; rintro e w' ⟨rfl, rfl⟩)
  go_ret
  exact ⟨by simp [ltN], rfl⟩

theorem ins_go (a j : Nat) (d : Array Nat) (hj : a < j) (hl : ltN d[j]! d[j - 1]! = true) : Sort.insInner ltN a j d = Sort.insInner ltN a (j - 1) (Sort.swp d j (j - 1)) := by
  obtain ⟨k, rfl⟩ : ∃ k, j = k + 1 := ⟨j - 1, by omega⟩
  rw [Sort.insInner]
  simp only [Nat.add_sub_cancel] at hl ⊢
  simp [hj, hl]
theorem ins_stop (a j : Nat) (d : Array Nat) (h : j ≤ a ∨ ltN d[j]! d[j - 1]! = false) : Sort.insInner ltN a j d = d := by
  cases j with
  | zero => rw [Sort.insInner]
  | succ k =>
    rw [Sort.insInner]
    simp only [Nat.add_sub_cancel] at h
    rcases h with h | h
    · simp [show ¬ k + 1 > a by omega]
    · simp [h]
theorem insO_go (a b i : Nat) (d : Array Nat) (h : i < b) : Sort.insOuter ltN a b i d = Sort.insOuter ltN a b (i + 1) (Sort.insInner ltN a i d) := by rw [Sort.insOuter, if_pos h]
def insI (w : World) (blk off a b : Nat) (d : Array Nat) (v : Value) (wr : World) : Prop :=
  ∃ (i n : Nat) (dk : Array Nat), v = .int .i64 i ∧ a < i ∧ i ≤ b + 1 ∧ dk.size = d.size ∧ wr = rowW w blk off n dk ∧ Sort.insOuter ltN a b i dk = Sort.insOuter ltN a b (a + 1) d
def insJ (w : World) (blk off a i : Nat) (d dk : Array Nat) (v : Value) (wr : World) : Prop :=
  ∃ (j n : Nat) (dj : Array Nat), v = .int .i64 j ∧ a ≤ j ∧ j ≤ i ∧ dj.size = d.size ∧ wr = rowW w blk off n dj ∧ Sort.insInner ltN a j dj = Sort.insInner ltN a i dk
set_option maxHeartbeats 1600000 in
set_option maxRecDepth 100000 in
theorem ins32_any (blk off cap a b : Nat) (d : Array Nat) (w : World) (hH : Sort.Holds e32 w blk off d) (hab : a ≤ b) (hb : b ≤ d.size) (hsz : d.size < 4611686018427387904) :
    Calls Try.prog 61 #[.slice (some ⟨blk, off, none⟩) d.size cap, .int .i64 a, .int .i64 b] w fun e w' =>
      e = .returned (.tuple #[]) ∧ ∃ n, w' = rowW w blk off n (Sort.insertionSort ltN d a b) := by
  have HH := Lib.hid hH
  clear hH
  go_enter Try.func61, Try.ntmps61
  go_wp2_with fail
  go_loopw [6] (fun v wr => insI w blk off a b d v wr) (fun v _ => b + 1 - (intOf v).toNat)
  case atStart => exact ⟨a + 1, 0, d, by go_num, by omega, by omega, rfl, rowW_start HH.out, rfl⟩
  case round =>
    obtain ⟨i, n, dk, rfl, hai, hib, hsk, rfl, hO⟩ := hrel
    have HO := Lib.hid hO
    clear hO
    by_cases hlt : i < b
    · go_wp2_with fail
      go_loopw [7] (fun v wr => insJ w blk off a i d dk v wr) (fun v _ => (intOf v).toNat)
      case atStart => exact ⟨i, n, dk, rfl, by omega, Nat.le_refl _, hsk, rfl, rfl⟩
      case round =>
        obtain ⟨j, m, dj, rfl, haj, hji, hsj, hw2, hI⟩ := hrel
        obtain ⟨G, hG⟩ : ∃ G : Nat → Nat, ∀ t, G t = dj[t]! := ⟨fun t => dj[t]!, fun _ => rfl⟩
        have hcw : ∀ t, t < d.size → wr.cell? ⟨blk, off + t, none⟩ = some (.int .u32 ((G t : Nat) : Int)) := fun t ht => by rw [hw2, hG]; exact rowW_cell HH.out hsj ht
        have hfw : ∀ t, t < d.size → wr.frozen? ⟨blk, off + t, none⟩ = false := fun t ht => by rw [hw2]; exact rowW_frozen HH.out hsj ht
        have HW := Lib.hid hw2
        have HG := Lib.hid hG
        clear hw2 hG
        have HI := Lib.hid hI
        clear hI
        have OUT := Lib.hid (fun (hs : j ≤ a ∨ ltN dj[j]! dj[j - 1]! = false) (q : Nat) => show insI w blk off a b d (.int .i64 ((i : Int) + 1)) (wr.drewN q) from
          ⟨i + 1, m + q, dj, by go_num, by omega, by omega, hsj, by rw [HW.out]; exact rowW_drewN _, by rw [← HO.out, insO_go a b i dk hlt, ← HI.out, ins_stop _ _ _ hs]⟩)
        by_cases hja : a < j
        · go_wp2_with fail
          go_quiet ((go_at_call 67; exact Calls.quiet_of_same (less32_any _ _ _)))
          go_wp2_with fail
          · have hl : ltN (G j) (G (j - 1)) = true := by assumption
            go_region
            all_goals go_wp2_with fail
            go_roundw
            case rel =>
              refine ⟨j - 1, m + (nq + 1), Sort.swp dj j (j - 1), by congr 1; omega, by omega, by omega, by rw [swp_size]; exact hsj, ?_, ?_⟩
              · rw [HG.out, HG.out]
                exact rowW_swap HW.out (nq + 1) (by omega) (by omega)
              · rw [← HI.out, ins_go a j dj hja (by rw [← HG.out, ← HG.out]; exact hl)]
            case measure => simp [intOf]; omega
          · have hl : ltN (G j) (G (j - 1)) = false := by assumption
            go_roundw
            case rel => exact OUT.out (Or.inr (by rw [← HG.out, ← HG.out]; exact hl)) nq
            case measure => simp [intOf]; omega
        · go_wp2_with fail
          go_quiet ((go_at_call 67; exact Calls.quiet_of_same (less32_any _ _ _)))
          go_wp2_with fail
          go_roundw
          case rel => exact OUT.out (Or.inl (by omega)) nq
          case measure => simp [intOf]; omega
    · go_wp2_with fail
      go_end0
      exact ⟨rfl, n, by unfold Sort.insertionSort; rw [← HO.out, Sort.insOuter, if_neg hlt]⟩

def revI (w : World) (blk off a b : Nat) (d : Array Nat) (k : Nat) (v1 v2 : Value) (wr : World) : Prop :=
  ∃ (i jn : Nat) (jz : Int) (dk : Array Nat) (n : Nat), v1 = .int .i64 i ∧ v2 = .int .i64 jz ∧ ((i : Int) < jz → jz = jn ∧ jn < d.size) ∧ (¬ (i : Int) < jz → ¬ i < jn) ∧ jn - i ≤ k ∧
    dk.size = d.size ∧ wr = rowW w blk off n dk ∧ Sort.reverseLoop i jn dk = Sort.reverseLoop a (b - 1) d
set_option maxHeartbeats 1600000 in
set_option maxRecDepth 100000 in
theorem rev32_any (blk off cap a b : Nat) (d : Array Nat) (w : World) (hH : Sort.Holds e32 w blk off d) (hab : a ≤ b) (hb : b ≤ d.size) (hsz : d.size < 4611686018427387904) :
    Calls Try.prog 65 #[.slice (some ⟨blk, off, none⟩) d.size cap, .int .i64 a, .int .i64 b] w fun e w' =>
      e = .returned (.tuple #[]) ∧ ∃ n, w' = rowW w blk off n (Sort.reverseRange d a b) := by
  have HH := Lib.hid hH
  clear hH
  go_enter Try.func65, Try.ntmps65
  go_wp2_with fail
  go_loopg [6, 7] (b - a) (fun k s6 s7 wr => revI w blk off a b d k s6 s7 wr)
  case atStart => exact ⟨a, b - 1, (b : Int) - 1, d, 0, rfl, rfl, fun h => ⟨by omega, by omega⟩, fun h => by omega, by omega, rfl, rowW_start HH.out, rfl⟩
  case round =>
    obtain ⟨i, jn, jz, dk, n, rfl, rfl, h1, h2, hk, hds, hwr, heq⟩ := hrel
    by_cases hlt : (i : Int) < jz
    · obtain ⟨rfl, hjn⟩ := h1 hlt
      have hij : i < jn := by omega
      rw [Sort.reverseLoop, if_pos hij] at heq
      have HEQ := Lib.hid heq
      obtain ⟨G, hG⟩ : ∃ G : Nat → Nat, ∀ t, G t = dk[t]! := ⟨fun t => dk[t]!, fun _ => rfl⟩
      have hcw : ∀ t, t < d.size → wr.cell? ⟨blk, off + t, none⟩ = some (.int .u32 ((G t : Nat) : Int)) := fun t ht => by rw [hwr, hG]; exact rowW_cell HH.out hds ht
      have hfw : ∀ t, t < d.size → wr.frozen? ⟨blk, off + t, none⟩ = false := fun t ht => by rw [hwr]; exact rowW_frozen HH.out hds ht
      have HW := Lib.hid hwr
      have HG := Lib.hid hG
      clear hwr hG
      clear heq h1 h2
      go_wp2_with fail
      go_region
      all_goals go_wp2_with fail
      go_roundg (jn - 1 - (i + 1))
      case measure => omega
      case rel =>
        refine ⟨i + 1, jn - 1, (jn : Int) - 1, Sort.swp dk i jn, n + 1, by simp, rfl, fun h => ⟨by omega, by omega⟩, fun h => by omega, Nat.le_refl _, by rw [swp_size]; exact hds, ?_, HEQ.out⟩
        rw [HG.out, HG.out]
        exact rowW_swap HW.out 1 (by omega) (by omega)
    · have hnot := h2 hlt
      have HEQ := Lib.hid heq
      clear heq h1 h2
      go_wp2_with fail
      go_end0
      refine ⟨rfl, n, ?_⟩
      have heq := HEQ.out
      rw [Sort.reverseLoop, if_neg hnot] at heq
      rw [Sort.reverseRange, ← heq]
end Go.Proofs.Ytmflopeedofkhaa

namespace Go.Proofs.Ytmflopeedofkhaa
set_option linter.unusedSimpArgs false
set_option linter.unusedVariables false
set_option maxRecDepth 100000
open Go.RowKit

theorem sd_end {hi F root : Nat} (d : Array Nat) (h : hi ≤ 2 * root + 1) : Sort.siftDown ltN hi F root d = d := by rw [Sort.siftDown, dif_pos h]
theorem sd_r0 {hi F root : Nat} (d : Array Nat) (h1 : 2 * root + 2 < hi) (h2 : ltN d[F + (2 * root + 1)]! d[F + (2 * root + 2)]! = true) (h3 : ltN d[F + root]! d[F + (2 * root + 2)]! = false) : Sort.siftDown ltN hi F root d = d := by
  rw [Sort.siftDown, dif_neg (by omega), show F + (2 * root + 1) + 1 = F + (2 * root + 2) by omega, h2, h3]
  simp [show 2 * root + 1 + 1 < hi by omega]
theorem sd_r1 {hi F root : Nat} (d : Array Nat) (h1 : 2 * root + 2 < hi) (h2 : ltN d[F + (2 * root + 1)]! d[F + (2 * root + 2)]! = true) (h3 : ltN d[F + root]! d[F + (2 * root + 2)]! = true) :
    Sort.siftDown ltN hi F root d = Sort.siftDown ltN hi F (2 * root + 2) (Sort.swp d (F + root) (F + (2 * root + 2))) := by
  rw [Sort.siftDown, dif_neg (by omega), show F + (2 * root + 1) + 1 = F + (2 * root + 2) by omega, h2, h3]
  simp [show 2 * root + 1 + 1 < hi by omega]
theorem sd_l0 {hi F root : Nat} (d : Array Nat) (h0 : 2 * root + 1 < hi) (h1 : 2 * root + 2 < hi → ltN d[F + (2 * root + 1)]! d[F + (2 * root + 2)]! = false) (h3 : ltN d[F + root]! d[F + (2 * root + 1)]! = false) : Sort.siftDown ltN hi F root d = d := by
  rw [Sort.siftDown, dif_neg (by omega), show F + (2 * root + 1) + 1 = F + (2 * root + 2) by omega, h3]
  by_cases h : 2 * root + 2 < hi
  · simp [h1 h]
  · simp [show ¬ 2 * root + 1 + 1 < hi by omega]
theorem sd_l1 {hi F root : Nat} (d : Array Nat) (h0 : 2 * root + 1 < hi) (h1 : 2 * root + 2 < hi → ltN d[F + (2 * root + 1)]! d[F + (2 * root + 2)]! = false) (h3 : ltN d[F + root]! d[F + (2 * root + 1)]! = true) :
    Sort.siftDown ltN hi F root d = Sort.siftDown ltN hi F (2 * root + 1) (Sort.swp d (F + root) (F + (2 * root + 1))) := by
  rw [Sort.siftDown, dif_neg (by omega), show F + (2 * root + 1) + 1 = F + (2 * root + 2) by omega, h3]
  by_cases h : 2 * root + 2 < hi
  · simp [h1 h]
  · simp [show ¬ 2 * root + 1 + 1 < hi by omega]
theorem sd_size (hi F : Nat) : ∀ (n root : Nat) (d : Array Nat), hi - root ≤ n → (Sort.siftDown ltN hi F root d).size = d.size := by
  intro n
  induction n with
  | zero => intro root d h; rw [Sort.siftDown, dif_pos (by omega)]
  | succ n ih =>
    intro root d h
    rw [Sort.siftDown]
    split
    · rfl
    · split
      · split
        · rfl
        · split
          · rw [ih _ _ (by omega), swp_size]
          · rfl
      · split
        · rfl
        · rw [ih _ _ (by omega), swp_size]

def sdI (w : World) (blk off lo hi first : Nat) (d : Array Nat) (k : Nat) (v : Value) (wr : World) : Prop :=
  ∃ (root : Nat) (dk : Array Nat) (n : Nat), v = .int .i64 root ∧ root ≤ hi ∧ hi - root ≤ k ∧ dk.size = d.size ∧ wr = rowW w blk off n dk ∧ Sort.siftDown ltN hi first root dk = Sort.siftDown ltN hi first lo d
set_option maxHeartbeats 3200000 in
set_option maxRecDepth 100000 in
theorem sift32_any (blk off cap lo hi first : Nat) (d : Array Nat) (w : World) (hH : Sort.Holds e32 w blk off d) (hlo : lo ≤ hi) (hb : first + hi ≤ d.size) (hsz : d.size < 4611686018427387904) :
    Calls Try.prog 79 #[.slice (some ⟨blk, off, none⟩) d.size cap, .int .i64 lo, .int .i64 hi, .int .i64 first] w fun e w' =>
      e = .returned (.tuple #[]) ∧ ∃ n, w' = rowW w blk off n (Sort.siftDown ltN hi first lo d) := by
  have HH := Lib.hid hH
  clear hH
  go_enter Try.func79, Try.ntmps79
  go_wp2_with fail
  go_loopg [8] (hi - lo) (fun k s8 wr => sdI w blk off lo hi first d k s8 wr)
  case atStart => exact ⟨lo, d, 0, rfl, hlo, Nat.le_refl _, rfl, rowW_start HH.out, rfl⟩
  case round =>
    obtain ⟨root, dk, n, rfl, hr, hk, hds, hwr, heq⟩ := hrel
    have HQ := Lib.hid heq
    clear heq
    by_cases h0 : hi ≤ 2 * root + 1
    · have h0z : decide ((hi : Int) ≤ 2 * (root : Int) + 1) = true := decide_eq_true (by omega)
      have HW := Lib.hid hwr
      clear hwr
      go_wp2_with fail
      (try simp only [Exit.inBlock, Exit.then])
      go_end0
      refine ⟨rfl, n, ?_⟩
      rw [HW.out, ← HQ.out, sd_end dk h0]
    · have h0z : decide ((hi : Int) ≤ 2 * (root : Int) + 1) = false := decide_eq_false (by omega)
      obtain ⟨G, hG⟩ : ∃ G : Nat → Nat, ∀ t, G t = dk[t]! := ⟨fun t => dk[t]!, fun _ => rfl⟩
      have hcw : ∀ t, t < d.size → wr.cell? ⟨blk, off + t, none⟩ = some (.int .u32 ((G t : Nat) : Int)) := fun t ht => by rw [hwr, hG]; exact rowW_cell HH.out hds ht
      have hfw : ∀ t, t < d.size → wr.frozen? ⟨blk, off + t, none⟩ = false := fun t ht => by rw [hwr]; exact rowW_frozen HH.out hds ht
      have HW := Lib.hid hwr
      have HG := Lib.hid hG
      clear hwr hG
      by_cases h1 : 2 * root + 2 < hi
      · have h1z : decide (2 * (root : Int) + 1 + 1 < (hi : Int)) = true := decide_eq_true (by omega)
        go_wp2_with fail
        go_quiet ((go_at_call 67; exact Calls.quiet_of_same (less32_any _ _ _)))
        go_wp2_with fail
        · have hL : ltN (G (first + 2 * root + 1)) (G (first + 2 * root + 2)) = true := by assumption
          have hL2 : ltN dk[first + (2 * root + 1)]! dk[first + (2 * root + 2)]! = true := by rw [← HG.out, ← HG.out]; exact hL
          clear hL
          obtain ⟨wq, hwq⟩ : ∃ wq, wq = wr.drewN nq := ⟨_, rfl⟩
          have hwq2 : wq = rowW w blk off (n + nq) dk := by rw [hwq, HW.out]; exact rowW_drewN _
          have hcq : ∀ t, t < d.size → wq.cell? ⟨blk, off + t, none⟩ = some (.int .u32 ((G t : Nat) : Int)) := fun t ht => by rw [hwq]; exact hcw t ht
          have hfq : ∀ t, t < d.size → wq.frozen? ⟨blk, off + t, none⟩ = false := fun t ht => by rw [hwq]; exact hfw t ht
          rw [← hwq]
          clear hcw hfw hwq HW
          obtain ⟨m, hm⟩ : ∃ m, m = n + nq := ⟨_, rfl⟩
          rw [← hm] at hwq2
          have HW := Lib.hid hwq2
          clear hm hwq2 nq
          go_quiet ((go_at_call 67; exact Calls.quiet_of_same (less32_any _ _ _)))
          go_wp2_with fail
          · have hS : ltN (G (first + root)) (G (first + 2 * root + 2)) = false := by
              have h : (!ltN (G (first + root)) (G (first + 2 * root + 2))) = true := by assumption
              rw [Bool.not_eq_true'] at h
              exact h
            rw [HG.out, HG.out] at hS
            (try simp only [Exit.inBlock, Exit.then])
            refine bodyPost_ret (results_none rfl _ _ _) rfl ?_
            refine ⟨rfl, m + nq, ?_⟩
            rw [HW.out, rowW_drewN, ← HQ.out, sd_r0 dk h1 hL2 hS]
          · have hS : ltN (G (first + root)) (G (first + 2 * root + 2)) = true := by
              have h : (!ltN (G (first + root)) (G (first + 2 * root + 2))) = false := by assumption
              rw [Bool.not_eq_false'] at h
              exact h
            rw [HG.out, HG.out] at hS
            go_region
            all_goals go_wp2_with fail
            go_roundg (hi - (2 * root + 2))
            case measure => omega
            case rel =>
              refine ⟨2 * root + 2, Sort.swp dk (first + root) (first + (2 * root + 2)), m + (nq + 1), by simp <;> omega, by omega, Nat.le_refl _, by rw [swp_size]; exact hds, ?_, ?_⟩
              · rw [HG.out, HG.out]
                exact rowW_swap HW.out (nq + 1) (by omega) (by omega)
              · rw [← HQ.out, sd_r1 dk h1 hL2 hS]
        · have hL : ltN (G (first + 2 * root + 1)) (G (first + 2 * root + 2)) = false := by assumption
          have hL2 : ltN dk[first + (2 * root + 1)]! dk[first + (2 * root + 2)]! = false := by rw [← HG.out, ← HG.out]; exact hL
          clear hL
          obtain ⟨wq, hwq⟩ : ∃ wq, wq = wr.drewN nq := ⟨_, rfl⟩
          have hwq2 : wq = rowW w blk off (n + nq) dk := by rw [hwq, HW.out]; exact rowW_drewN _
          have hcq : ∀ t, t < d.size → wq.cell? ⟨blk, off + t, none⟩ = some (.int .u32 ((G t : Nat) : Int)) := fun t ht => by rw [hwq]; exact hcw t ht
          have hfq : ∀ t, t < d.size → wq.frozen? ⟨blk, off + t, none⟩ = false := fun t ht => by rw [hwq]; exact hfw t ht
          rw [← hwq]
          clear hcw hfw hwq HW
          obtain ⟨m, hm⟩ : ∃ m, m = n + nq := ⟨_, rfl⟩
          rw [← hm] at hwq2
          have HW := Lib.hid hwq2
          clear hm hwq2 nq
          go_quiet ((go_at_call 67; exact Calls.quiet_of_same (less32_any _ _ _)))
          go_wp2_with fail
          · have hS : ltN (G (first + root)) (G (first + 2 * root + 1)) = false := by
              have h : (!ltN (G (first + root)) (G (first + 2 * root + 1))) = true := by assumption
              rw [Bool.not_eq_true'] at h
              exact h
            rw [HG.out, HG.out] at hS
            (try simp only [Exit.inBlock, Exit.then])
            refine bodyPost_ret (results_none rfl _ _ _) rfl ?_
            refine ⟨rfl, m + nq, ?_⟩
            rw [HW.out, rowW_drewN, ← HQ.out, sd_l0 dk (by omega) (fun _ => hL2) hS]
          · have hS : ltN (G (first + root)) (G (first + 2 * root + 1)) = true := by
              have h : (!ltN (G (first + root)) (G (first + 2 * root + 1))) = false := by assumption
              rw [Bool.not_eq_false'] at h
              exact h
            rw [HG.out, HG.out] at hS
            go_region
            all_goals go_wp2_with fail
            go_roundg (hi - (2 * root + 1))
            case measure => omega
            case rel =>
              refine ⟨2 * root + 1, Sort.swp dk (first + root) (first + (2 * root + 1)), m + (nq + 1), by simp <;> omega, by omega, Nat.le_refl _, by rw [swp_size]; exact hds, ?_, ?_⟩
              · rw [HG.out, HG.out]
                exact rowW_swap HW.out (nq + 1) (by omega) (by omega)
              · rw [← HQ.out, sd_l1 dk (by omega) (fun _ => hL2) hS]
      · have h1z : decide (2 * (root : Int) + 1 + 1 < (hi : Int)) = false := decide_eq_false (by omega)
        go_wp2_with fail
        go_quiet ((go_at_call 67; exact Calls.quiet_of_same (less32_any _ _ _)))
        go_wp2_with fail
        obtain ⟨wq, hwq⟩ : ∃ wq, wq = wr.drewN nq := ⟨_, rfl⟩
        have hwq2 : wq = rowW w blk off (n + nq) dk := by rw [hwq, HW.out]; exact rowW_drewN _
        have hcq : ∀ t, t < d.size → wq.cell? ⟨blk, off + t, none⟩ = some (.int .u32 ((G t : Nat) : Int)) := fun t ht => by rw [hwq]; exact hcw t ht
        have hfq : ∀ t, t < d.size → wq.frozen? ⟨blk, off + t, none⟩ = false := fun t ht => by rw [hwq]; exact hfw t ht
        rw [← hwq]
        clear hcw hfw hwq HW
        obtain ⟨m, hm⟩ : ∃ m, m = n + nq := ⟨_, rfl⟩
        rw [← hm] at hwq2
        have HW := Lib.hid hwq2
        clear hm hwq2 nq
        go_quiet ((go_at_call 67; exact Calls.quiet_of_same (less32_any _ _ _)))
        go_wp2_with fail
        · have hS : ltN (G (first + root)) (G (first + 2 * root + 1)) = false := by
            have h : (!ltN (G (first + root)) (G (first + 2 * root + 1))) = true := by assumption
            rw [Bool.not_eq_true'] at h
            exact h
          rw [HG.out, HG.out] at hS
          (try simp only [Exit.inBlock, Exit.then])
          refine bodyPost_ret (results_none rfl _ _ _) rfl ?_
          refine ⟨rfl, m + nq, ?_⟩
          rw [HW.out, rowW_drewN, ← HQ.out, sd_l0 dk (by omega) (fun h => absurd h h1) hS]
        · have hS : ltN (G (first + root)) (G (first + 2 * root + 1)) = true := by
            have h : (!ltN (G (first + root)) (G (first + 2 * root + 1))) = false := by assumption
            rw [Bool.not_eq_false'] at h
            exact h
          rw [HG.out, HG.out] at hS
          go_region
          all_goals go_wp2_with fail
          go_roundg (hi - (2 * root + 1))
          case measure => omega
          case rel =>
            refine ⟨2 * root + 1, Sort.swp dk (first + root) (first + (2 * root + 1)), m + (nq + 1), by simp <;> omega, by omega, Nat.le_refl _, by rw [swp_size]; exact hds, ?_, ?_⟩
            · rw [HG.out, HG.out]
              exact rowW_swap HW.out (nq + 1) (by omega) (by omega)
            · rw [← HQ.out, sd_l1 dk (by omega) (fun h => absurd h h1) hS]

theorem half_nat {a b : Nat} (hab : a ≤ b) : ((b : Int) - (a : Int) - 1).tdiv 2 = (((b - a - 1) / 2 + 1 : Nat) : Int) - 1 := by
  rcases Nat.lt_or_ge a b with h | h
  · rw [Int.tdiv_eq_ediv_of_nonneg (by omega)]
    omega
  · obtain rfl : a = b := by omega
    rw [show ((a : Int) - (a : Int) - 1) = -1 by omega]
    simp
def hbI (w : World) (blk off a b : Nat) (d : Array Nat) (k : Nat) (v : Value) (wr : World) : Prop :=
  v = .int .i64 ((k : Int) - 1) ∧ k ≤ (b - a - 1) / 2 + 1 ∧ ∃ (dk : Array Nat) (n : Nat), dk.size = d.size ∧ wr = rowW w blk off n dk ∧ Sort.heapBuild ltN (b - a) a k dk = Sort.heapBuild ltN (b - a) a ((b - a - 1) / 2 + 1) d
def hpI (w : World) (blk off a b : Nat) (d dk : Array Nat) (k : Nat) (v : Value) (wr : World) : Prop :=
  v = .int .i64 ((k : Int) - 1) ∧ k ≤ b - a ∧ ∃ (dj : Array Nat) (n : Nat), dj.size = d.size ∧ wr = rowW w blk off n dj ∧ Sort.heapPop ltN a k dj = Sort.heapPop ltN a (b - a) dk
set_option maxHeartbeats 3200000 in
set_option maxRecDepth 100000 in
theorem heap32_any (blk off cap a b : Nat) (d : Array Nat) (w : World) (hH : Sort.Holds e32 w blk off d) (hab : a ≤ b) (hb : b ≤ d.size) (hsz : d.size < 4611686018427387904) :
    Calls Try.prog 62 #[.slice (some ⟨blk, off, none⟩) d.size cap, .int .i64 a, .int .i64 b] w fun e w' =>
      e = .returned (.tuple #[]) ∧ ∃ n, w' = rowW w blk off n (Sort.heapSort ltN d a b) := by
  have HH := Lib.hid hH
  clear hH
  have ecast : ((b - a : Nat) : Int) = (b : Int) - (a : Int) := by omega
  have EC := Lib.hid ecast
  clear ecast
  go_enter Try.func62, Try.ntmps62
  go_wp2_with fail
  go_loopg [9] ((b - a - 1) / 2 + 1) (fun k s9 wr => hbI w blk off a b d k s9 wr)
  case atStart => exact ⟨by rw [half_nat hab], Nat.le_refl _, d, 0, rfl, rowW_start HH.out, rfl⟩
  case round =>
    obtain ⟨rfl, hkk, dk, n, hds, hwr, heq⟩ := hrel
    have HQ := Lib.hid heq
    have HW := Lib.hid hwr
    clear hwr heq
    cases gk with
    | zero =>
      clear hkk
      go_wp2_with fail
      go_loopg [10] (b - a) (fun k s10 wr2 => hpI w blk off a b d dk k s10 wr2)
      case atStart => exact ⟨by rw [EC.out], Nat.le_refl _, dk, n, hds, HW.out, rfl⟩
      case round =>
        obtain ⟨rfl, hkk, dj, n2, hdj, hwr2, heq2⟩ := hrel
        have HQ2 := Lib.hid heq2
        clear HW heq2
        cases gk with
        | zero =>
          have HW := Lib.hid hwr2
          clear hwr2
          go_wp2_with fail
          go_end0
          refine ⟨rfl, n2, ?_⟩
          have e : dj = Sort.heapSort ltN d a b := by rw [Sort.heapSort, ← HQ.out]; exact HQ2.out
          rw [← e]; exact HW.out
        | succ k =>
          obtain ⟨G, hG⟩ : ∃ G : Nat → Nat, ∀ t, G t = dj[t]! := ⟨fun t => dj[t]!, fun _ => rfl⟩
          have hcw : ∀ t, t < d.size → wr.cell? ⟨blk, off + t, none⟩ = some (.int .u32 ((G t : Nat) : Int)) := fun t ht => by rw [hwr2, hG]; exact rowW_cell HH.out hdj ht
          have hfw : ∀ t, t < d.size → wr.frozen? ⟨blk, off + t, none⟩ = false := fun t ht => by rw [hwr2]; exact rowW_frozen HH.out hdj ht
          have HW := Lib.hid hwr2
          have HG := Lib.hid hG
          clear hwr2 hG
          rcases Nat.eq_zero_or_pos k with hk0 | hkp
          · subst hk0
            go_wp2_with fail
            go_region
            all_goals go_wp2_with fail
            repeat rw [HG.out]
            have hsw : ((wr.setCell ⟨blk, off + a, none⟩ (.int .u32 ((dj[a]! : Nat) : Int))).setCell ⟨blk, off + (a), none⟩ (.int .u32 ((dj[a]! : Nat) : Int))).drew = rowW w blk off (n2 + 1) (Sort.swp dj a (a)) := rowW_swap HW.out 1 (i := a) (j := a) (by omega) (by omega)
            rw [hsw]
            have hcall := sift32_any blk off cap 0 0 a (Sort.swp dj a (a)) (rowW w blk off (n2 + 1) (Sort.swp dj a (a))) (rowW_holds HH.out (by rw [swp_size]; exact hdj)) (Nat.zero_le _) (by rw [swp_size]; omega) (by rw [swp_size]; omega)
            rw [swp_size, hdj] at hcall
            refine hcall.mono ?_
            clear hcall hsw
            rintro e w1 ⟨rfl, m, rfl⟩
            rw [rowW_rowW _ _ (sd_size _ _ _ _ _ (Nat.le_refl _))]
            go_wp2_with fail
            go_roundg (0)
            case measure => omega
            case rel => exact ⟨by simp, by omega, Sort.siftDown ltN (0) a 0 (Sort.swp dj a (a)), n2 + 1 + m, by rw [sd_size _ _ _ _ _ (Nat.le_refl _), swp_size]; exact hdj, rfl, HQ2.out⟩
          · go_wp2_with fail
            go_region
            all_goals go_wp2_with fail
            repeat rw [HG.out]
            have hsw : ((wr.setCell ⟨blk, off + a, none⟩ (.int .u32 ((dj[a + k]! : Nat) : Int))).setCell ⟨blk, off + (a + k), none⟩ (.int .u32 ((dj[a]! : Nat) : Int))).drew = rowW w blk off (n2 + 1) (Sort.swp dj a (a + k)) := rowW_swap HW.out 1 (i := a) (j := a + k) (by omega) (by omega)
            rw [hsw]
            have hcall := sift32_any blk off cap 0 k a (Sort.swp dj a (a + k)) (rowW w blk off (n2 + 1) (Sort.swp dj a (a + k))) (rowW_holds HH.out (by rw [swp_size]; exact hdj)) (Nat.zero_le _) (by rw [swp_size]; omega) (by rw [swp_size]; omega)
            rw [swp_size, hdj] at hcall
            refine hcall.mono ?_
            clear hcall hsw
            rintro e w1 ⟨rfl, m, rfl⟩
            rw [rowW_rowW _ _ (sd_size _ _ _ _ _ (Nat.le_refl _))]
            go_wp2_with fail
            go_roundg (k)
            case measure => omega
            case rel => exact ⟨by simp, by omega, Sort.siftDown ltN (k) a 0 (Sort.swp dj a (a + k)), n2 + 1 + m, by rw [sd_size _ _ _ _ _ (Nat.le_refl _), swp_size]; exact hdj, rfl, HQ2.out⟩
    | succ k =>
      have hcall := sift32_any blk off cap k (b - a) a dk wr (by rw [HW.out]; exact rowW_holds HH.out hds) (by omega) (by omega) (by omega)
      rw [EC.out, hds] at hcall
      have HC := Lib.hid hcall
      clear hcall
      go_wp2_with (go_at_call 79; refine HC.out.mono ?_; rintro e w1 ⟨rfl, m, rfl⟩)
      go_roundg k
      case measure => omega
      case rel =>
        refine ⟨by simp, by omega, Sort.siftDown ltN (b - a) a k dk, n + m, by rw [sd_size _ _ _ _ _ (Nat.le_refl _)]; exact hds, ?_, HQ.out⟩
        rw [HW.out, rowW_rowW _ _ (sd_size _ _ _ _ _ (Nat.le_refl _))]
end Go.Proofs.Ytmflopeedofkhaa

namespace Go.Proofs.Ytmflopeedofkhaa
set_option linter.unusedSimpArgs false
set_option linter.unusedVariables false
set_option maxRecDepth 100000
open Go.RowKit

theorem up_go (p : Nat → Bool) (d : Array Nat) (j i : Nat) (h : i ≤ j) (hp : p d[i]! = true) : Sort.scanUp p d j i = Sort.scanUp p d j (i + 1) := by
  rw [Sort.scanUp, if_pos (by simp [h, hp])]
theorem up_end (p : Nat → Bool) (d : Array Nat) (j i : Nat) (h : ¬ i ≤ j ∨ p d[i]! = false) : Sort.scanUp p d j i = i := by
  rw [Sort.scanUp, if_neg (by rcases h with h | h <;> simp [h])]
theorem dn_go (p : Nat → Bool) (d : Array Nat) (i j : Nat) (h : i ≤ j) (h0 : 0 < j) (hp : p d[j]! = true) : Sort.scanDown p d i j = Sort.scanDown p d i (j - 1) := by
  obtain ⟨k, rfl⟩ : ∃ k, j = k + 1 := ⟨j - 1, by omega⟩
  rw [Sort.scanDown, if_pos (by simp [h, hp])]
  rfl
theorem dn_end (p : Nat → Bool) (d : Array Nat) (i j : Nat) (h : ¬ i ≤ j ∨ p d[j]! = false) : Sort.scanDown p d i j = j := by
  cases j with
  | zero => rfl
  | succ k => rw [Sort.scanDown, if_neg (by rcases h with h | h <;> simp [h])]
theorem pe_break (a i j : Nat) (dk : Array Nat) {i2 j2 : Nat} (hi2 : Sort.scanUp (fun x => !ltN dk[a]! x) dk j i = i2) (hj2 : Sort.scanDown (fun x => ltN dk[a]! x) dk i2 j = j2) (h : j2 < i2) : Sort.partEqLoop ltN a i j dk = (i2, dk) := by
  subst hi2; subst hj2
  rw [Sort.partEqLoop_eq, if_pos h]
theorem pe_go (a i j : Nat) (dk : Array Nat) {i2 j2 : Nat} (hi2 : Sort.scanUp (fun x => !ltN dk[a]! x) dk j i = i2) (hj2 : Sort.scanDown (fun x => ltN dk[a]! x) dk i2 j = j2) (h : ¬ i2 > j2) :
    Sort.partEqLoop ltN a i j dk = Sort.partEqLoop ltN a (i2 + 1) (j2 - 1) (Sort.swp dk i2 j2) := by
  subst hi2; subst hj2
  rw [Sort.partEqLoop_eq, if_neg h]
theorem pt_break (a i j : Nat) (dk : Array Nat) {i2 j2 : Nat} (hi2 : Sort.scanUp (fun x => ltN x dk[a]!) dk j i = i2) (hj2 : Sort.scanDown (fun x => !ltN x dk[a]!) dk i2 j = j2) (h : j2 < i2) : Sort.partLoop ltN a i j dk = (j2, dk) := by
  subst hi2; subst hj2
  rw [Sort.partLoop_eq, if_pos h]
theorem pt_go (a i j : Nat) (dk : Array Nat) {i2 j2 : Nat} (hi2 : Sort.scanUp (fun x => ltN x dk[a]!) dk j i = i2) (hj2 : Sort.scanDown (fun x => !ltN x dk[a]!) dk i2 j = j2) (h : ¬ i2 > j2) :
    Sort.partLoop ltN a i j dk = Sort.partLoop ltN a (i2 + 1) (j2 - 1) (Sort.swp dk i2 j2) := by
  subst hi2; subst hj2
  rw [Sort.partLoop_eq, if_neg h]
theorem pt_first_break (d : Array Nat) (a b pivot : Nat) {dk : Array Nat} {i j i2 j2 : Nat} (hij : i = a + 1 ∧ j = b - 1) (hdk : dk = Sort.swp d a pivot) (hi2 : Sort.scanUp (fun x => ltN x dk[a]!) dk j i = i2) (hj2 : Sort.scanDown (fun x => !ltN x dk[a]!) dk i2 j = j2) (h : j2 < i2) :
    Sort.partition ltN d a b pivot = (j2, true, Sort.swp dk j2 a) := by
  obtain ⟨rfl, rfl⟩ := hij
  subst hdk; subst hi2; subst hj2
  unfold Sort.partition
  simp only []
  rw [if_pos h]
theorem pt_first_go (d : Array Nat) (a b pivot : Nat) {dk : Array Nat} {i j i2 j2 : Nat} (hij : i = a + 1 ∧ j = b - 1) (hdk : dk = Sort.swp d a pivot) (hi2 : Sort.scanUp (fun x => ltN x dk[a]!) dk j i = i2) (hj2 : Sort.scanDown (fun x => !ltN x dk[a]!) dk i2 j = j2) (h : ¬ i2 > j2) :
    Sort.partition ltN d a b pivot = ((Sort.partLoop ltN a (i2 + 1) (j2 - 1) (Sort.swp dk i2 j2)).1, false, Sort.swp (Sort.partLoop ltN a (i2 + 1) (j2 - 1) (Sort.swp dk i2 j2)).2 (Sort.partLoop ltN a (i2 + 1) (j2 - 1) (Sort.swp dk i2 j2)).1 a) := by
  obtain ⟨rfl, rfl⟩ := hij
  subst hdk; subst hi2; subst hj2
  unfold Sort.partition
  simp only []
  rw [if_neg h]
theorem lt_of_tests {G : Nat → Nat} {a i j : Nat} {b1 b2 : Bool} (h1 : b1 = false) (h2 : b2 = true) (e : i = j → b1 = b2) (h : i ≤ j) : i < j := by
  rcases Nat.lt_or_ge i j with hl | hl
  · exact hl
  · have := e (by omega)
    rw [h1, h2] at this
    cases this

def scU (w : World) (blk off : Nat) (dk : Array Nat) (p : Nat → Bool) (i j : Nat) (v : Value) (wr : World) : Prop :=
  ∃ i' n : Nat, v = .int .i64 i' ∧ i ≤ i' ∧ i' ≤ j + 1 ∧ wr = rowW w blk off n dk ∧ Sort.scanUp p dk j i' = Sort.scanUp p dk j i
def scD (w : World) (blk off : Nat) (dk : Array Nat) (p : Nat → Bool) (i j : Nat) (v : Value) (wr : World) : Prop :=
  ∃ j' n : Nat, v = .int .i64 j' ∧ j' ≤ j ∧ i ≤ j' + 1 ∧ wr = rowW w blk off n dk ∧ Sort.scanDown p dk i j' = Sort.scanDown p dk i j
def peI (w : World) (blk off a b pivot : Nat) (d : Array Nat) (v1 v2 : Value) (wr : World) : Prop :=
  ∃ (i j n : Nat) (dk : Array Nat), v1 = .int .i64 i ∧ v2 = .int .i64 j ∧ a < i ∧ i ≤ j + 1 ∧ j < b ∧ dk.size = d.size ∧ wr = rowW w blk off n dk ∧ Sort.partEqLoop ltN a i j dk = Sort.partEqLoop ltN a (a + 1) (b - 1) (Sort.swp d a pivot)
def ptI (w : World) (blk off a i0 j0 b : Nat) (d d0 : Array Nat) (v1 v2 : Value) (wr : World) : Prop :=
  ∃ (i j n : Nat) (dk : Array Nat), v1 = .int .i64 i ∧ v2 = .int .i64 j ∧ a < i ∧ i ≤ j + 1 ∧ j < b ∧ dk.size = d.size ∧ wr = rowW w blk off n dk ∧ Sort.partLoop ltN a i j dk = Sort.partLoop ltN a i0 j0 d0

set_option maxHeartbeats 6400000 in
set_option maxRecDepth 100000 in
theorem peq32_any (blk off cap a b pivot : Nat) (d : Array Nat) (w : World) (hH : Sort.Holds e32 w blk off d) (hap : a ≤ pivot) (hpb : pivot < b) (hb : b ≤ d.size) (hsz : d.size < 4611686018427387904) :
    Calls Try.prog 68 #[.slice (some ⟨blk, off, none⟩) d.size cap, .int .i64 a, .int .i64 b, .int .i64 pivot] w fun e w' =>
      e = .returned (.int .i64 ((Sort.partitionEqual ltN d a b pivot).1 : Nat)) ∧ ∃ n, w' = rowW w blk off n (Sort.partitionEqual ltN d a b pivot).2 := by
  have HH := Lib.hid hH
  clear hH
  have hw0 := rowW_start HH.out
  have hds : d.size = d.size := rfl
  obtain ⟨G, hG⟩ : ∃ G : Nat → Nat, ∀ t, G t = d[t]! := ⟨fun t => d[t]!, fun _ => rfl⟩
  have hcw : ∀ t, t < d.size → w.cell? ⟨blk, off + t, none⟩ = some (.int .u32 ((G t : Nat) : Int)) := fun t ht => by rw [hw0, hG]; exact rowW_cell HH.out hds ht
  have hfw : ∀ t, t < d.size → w.frozen? ⟨blk, off + t, none⟩ = false := fun t ht => by rw [hw0]; exact rowW_frozen HH.out hds ht
  have HW := Lib.hid hw0
  have HG := Lib.hid hG
  clear hw0 hG
  clear hds
  have cq : w.cell? ⟨blk, off + pivot, none⟩ = some (.int .u32 ((G pivot : Nat) : Int)) := hcw pivot (by omega)
  obtain ⟨v', hy'⟩ := cell?_setCell_some (w := w) (p := ⟨blk, off + a, none⟩) (x := .int .u32 ((G pivot : Nat) : Int)) (q := ⟨blk, off + pivot, none⟩) cq
  have hlx : a < d.size := by omega
  have hly : pivot < d.size := by omega
  go_enter Try.func68, Try.ntmps68
  go_wp2_with fail
  go_region
  all_goals go_wp2_with fail
  repeat rw [HG.out]
  have hsw : ((w.setCell ⟨blk, off + a, none⟩ (.int .u32 ((d[pivot]! : Nat) : Int))).setCell ⟨blk, off + pivot, none⟩ (.int .u32 ((d[a]! : Nat) : Int))).drew = rowW w blk off (0 + 1) (Sort.swp d a pivot) := rowW_swap HW.out 1 hlx hly
  rw [hsw]
  clear hsw hcw hfw HW HG cq hy' v' G
  go_loopw [9, 10] (fun v1 v2 wr => peI w blk off a b pivot d v1 v2 wr) (fun v1 v2 _ => (intOf v2).toNat + 1 - (intOf v1).toNat)
  case atStart => exact ⟨a + 1, b - 1, 0 + 1, Sort.swp d a pivot, by go_num, by go_num, by omega, by omega, by omega, swp_size _ _ _, rfl, rfl⟩
  case round =>
    obtain ⟨i, j, n, dk, rfl, rfl, hai, hij, hjb, hs, hw, heq⟩ := hrel
    have HE := Lib.hid heq
    have HW0 := Lib.hid hw
    clear heq hw
    go_wp2_with fail
    go_loopw [9] (fun v wr => scU w blk off dk (fun x => !ltN dk[a]! x) i j v wr) (fun v _ => j + 1 - (intOf v).toNat)
    case atStart => exact ⟨i, _, by first | rfl | go_num, Nat.le_refl _, hij, HW0.out, rfl⟩
    case round =>
      obtain ⟨i', n1, rfl, hii, hij', hw1, hsc⟩ := hrel
      have HSC := Lib.hid hsc
      clear hsc HW0
      obtain ⟨G, hG⟩ : ∃ G : Nat → Nat, ∀ t, G t = dk[t]! := ⟨fun t => dk[t]!, fun _ => rfl⟩
      have hcw : ∀ t, t < d.size → wr.cell? ⟨blk, off + t, none⟩ = some (.int .u32 ((G t : Nat) : Int)) := fun t ht => by rw [hw1, hG]; exact rowW_cell HH.out hs ht
      have hfw : ∀ t, t < d.size → wr.frozen? ⟨blk, off + t, none⟩ = false := fun t ht => by rw [hw1]; exact rowW_frozen HH.out hs ht
      have HW := Lib.hid hw1
      have HG := Lib.hid hG
      clear hw1 hG
      by_cases hle : i' ≤ j
      · have hlz : decide (i' ≤ j) = true := decide_eq_true hle
        go_wp2_with fail
        go_quiet ((go_at_call 67; exact Calls.quiet_of_same (less32_any _ _ _)))
        go_wp2_with fail
        · have ht : (!ltN (G a) (G i')) = true := by assumption
          rw [HG.out, HG.out] at ht
          go_roundw
          case rel => exact ⟨i' + 1, n1 + nq, by go_num, by omega, by omega, by rw [HW.out]; exact rowW_drewN _, (up_go (fun x => !ltN dk[a]! x) dk j i' hle ht).symm.trans HSC.out⟩
          case measure => simp [intOf]; omega
        · have ht : (!ltN (G a) (G i')) = false := by assumption
          rw [HG.out, HG.out] at ht
          have HI2 := Lib.hid (HSC.out.symm.trans (up_end (fun x => !ltN dk[a]! x) dk j i' (.inr ht)))
          have HT := Lib.hid ht
          have HW2 := Lib.hid (show wr.drewN nq = rowW w blk off (n1 + nq) dk by rw [HW.out]; exact rowW_drewN _)
          clear ht HSC hcw hfw HW HG hlz
          go_loopw [10] (fun v wr => scD w blk off dk (fun x => ltN dk[a]! x) i' j v wr) (fun v _ => (intOf v).toNat)
          case atStart => exact ⟨j, n1 + nq, rfl, Nat.le_refl _, by omega, HW2.out, rfl⟩
          case round =>
            clear HW2
            obtain ⟨j', n2, rfl, hjj, hij2, hw3, hsd⟩ := hrel
            have HSD := Lib.hid hsd
            clear hsd
            obtain ⟨G, hG⟩ : ∃ G : Nat → Nat, ∀ t, G t = dk[t]! := ⟨fun t => dk[t]!, fun _ => rfl⟩
            have hcw : ∀ t, t < d.size → wr.cell? ⟨blk, off + t, none⟩ = some (.int .u32 ((G t : Nat) : Int)) := fun t ht => by rw [hw3, hG]; exact rowW_cell HH.out hs ht
            have hfw : ∀ t, t < d.size → wr.frozen? ⟨blk, off + t, none⟩ = false := fun t ht => by rw [hw3]; exact rowW_frozen HH.out hs ht
            have HW := Lib.hid hw3
            have HG := Lib.hid hG
            clear hw3 hG
            by_cases hle2 : i' ≤ j'
            · have hlz : decide (i' ≤ j') = true := decide_eq_true hle2
              go_wp2_with fail
              go_quiet ((go_at_call 67; exact Calls.quiet_of_same (less32_any _ _ _)))
              go_wp2_with fail
              · have ht : ltN (G a) (G j') = true := by assumption
                rw [HG.out, HG.out] at ht
                go_roundw
                case rel => exact ⟨j' - 1, n2 + nq, by go_num, by omega, by omega, by rw [HW.out]; exact rowW_drewN _, (dn_go (fun x => ltN dk[a]! x) dk i' j' hle2 (by omega) ht).symm.trans HSD.out⟩
                case measure => simp [intOf]; omega
              · have ht : ltN (G a) (G j') = false := by assumption
                rw [HG.out, HG.out] at ht
                have HJ2 := Lib.hid (HSD.out.symm.trans (dn_end (fun x => ltN dk[a]! x) dk i' j' (.inr ht)))
                have hst : i' < j' := by
                  rcases Nat.lt_or_ge i' j' with h | h
                  · exact h
                  · have e : i' = j' := by omega
                    have h2 := HT.out
                    rw [e] at h2
                    simp only [Bool.not_eq_false', Bool.not_eq_true'] at h2 ht
                    rw [h2] at ht
                    cases ht
                clear ht hlz
                go_wp2_with fail
                go_region
                all_goals go_wp2_with fail
                have hsw : ((wr.drewN (nq + 1)).setCell ⟨blk, off + i', none⟩ (.int .u32 ((dk[j']! : Nat) : Int))).setCell ⟨blk, off + j', none⟩ (.int .u32 ((dk[i']! : Nat) : Int)) = rowW w blk off (n2 + (nq + 1)) (Sort.swp dk i' j') := rowW_swap HW.out (nq + 1) (by omega) (by omega)
                go_roundw
                case rel =>
                  refine ⟨i' + 1, j' - 1, n2 + (nq + 1), Sort.swp dk i' j', by go_num, by go_num, by omega, by omega, by omega, by rw [swp_size]; exact hs, ?_, ?_⟩
                  · repeat rw [HG.out]
                    exact hsw
                  · rw [← HE.out, pe_go a i j dk HI2.out HJ2.out (by omega)]
                case measure => simp [intOf]; omega
            · have hlz : decide (i' ≤ j') = false := decide_eq_false hle2
              have HJ2 := Lib.hid (HSD.out.symm.trans (dn_end (fun x => ltN dk[a]! x) dk i' j' (.inl hle2)))
              go_wp2_with fail
              go_quiet ((go_at_call 67; exact Calls.quiet_of_same (less32_any _ _ _)))
              go_wp2_with fail
              go_wp2_with fail
              go_ret
              have e := pe_break a i j dk HI2.out HJ2.out (by omega)
              refine ⟨?_, n2 + nq, ?_⟩
              · unfold Sort.partitionEqual; rw [← HE.out, e]; rfl
              · unfold Sort.partitionEqual; rw [← HE.out, e, HW.out, rowW_drewN]
      · have hlz : decide (i' ≤ j) = false := decide_eq_false hle
        have HI2 := Lib.hid (HSC.out.symm.trans (up_end (fun x => !ltN dk[a]! x) dk j i' (.inl hle)))
        go_wp2_with fail
        go_quiet ((go_at_call 67; exact Calls.quiet_of_same (less32_any _ _ _)))
        go_wp2_with fail
        have HW2 := Lib.hid (show wr.drewN nq = rowW w blk off (n1 + nq) dk by rw [HW.out]; exact rowW_drewN _)
        clear HSC hcw hfw HW HG hlz
        go_loopw [10] (fun v wr => scD w blk off dk (fun x => ltN dk[a]! x) i' j v wr) (fun v _ => (intOf v).toNat)
        case atStart => exact ⟨j, n1 + nq, rfl, Nat.le_refl _, by omega, HW2.out, rfl⟩
        case round =>
          clear HW2
          obtain ⟨j', n2, rfl, hjj, hij2, hw3, hsd⟩ := hrel
          have HSD := Lib.hid hsd
          clear hsd
          obtain ⟨G, hG⟩ : ∃ G : Nat → Nat, ∀ t, G t = dk[t]! := ⟨fun t => dk[t]!, fun _ => rfl⟩
          have hcw : ∀ t, t < d.size → wr.cell? ⟨blk, off + t, none⟩ = some (.int .u32 ((G t : Nat) : Int)) := fun t ht => by rw [hw3, hG]; exact rowW_cell HH.out hs ht
          have hfw : ∀ t, t < d.size → wr.frozen? ⟨blk, off + t, none⟩ = false := fun t ht => by rw [hw3]; exact rowW_frozen HH.out hs ht
          have HW := Lib.hid hw3
          have HG := Lib.hid hG
          clear hw3 hG
          have hle2 : ¬ i' ≤ j' := by omega
          have hlz : decide (i' ≤ j') = false := decide_eq_false hle2
          have HJ2 := Lib.hid (HSD.out.symm.trans (dn_end (fun x => ltN dk[a]! x) dk i' j' (.inl hle2)))
          go_wp2_with fail
          go_quiet ((go_at_call 67; exact Calls.quiet_of_same (less32_any _ _ _)))
          go_wp2_with fail
          go_wp2_with fail
          go_ret
          have e := pe_break a i j dk HI2.out HJ2.out (by omega)
          refine ⟨?_, n2 + nq, ?_⟩
          · unfold Sort.partitionEqual; rw [← HE.out, e]; rfl
          · unfold Sort.partitionEqual; rw [← HE.out, e, HW.out, rowW_drewN]

set_option maxHeartbeats 12800000 in
set_option maxRecDepth 100000 in
theorem part32_any (blk off cap a b pivot : Nat) (d : Array Nat) (w : World) (hH : Sort.Holds e32 w blk off d) (hap : a ≤ pivot) (hpb : pivot < b) (hb : b ≤ d.size) (hsz : d.size < 4611686018427387904) :
    Calls Try.prog 69 #[.slice (some ⟨blk, off, none⟩) d.size cap, .int .i64 a, .int .i64 b, .int .i64 pivot] w fun e w' =>
      e = .returned (.tuple #[.int .i64 ((Sort.partition ltN d a b pivot).1 : Nat), .bool (Sort.partition ltN d a b pivot).2.1]) ∧ ∃ n, w' = rowW w blk off n (Sort.partition ltN d a b pivot).2.2 := by
  have HH := Lib.hid hH
  clear hH
  have hw0 := rowW_start HH.out
  have hds : d.size = d.size := rfl
  obtain ⟨G, hG⟩ : ∃ G : Nat → Nat, ∀ t, G t = d[t]! := ⟨fun t => d[t]!, fun _ => rfl⟩
  have hcw : ∀ t, t < d.size → w.cell? ⟨blk, off + t, none⟩ = some (.int .u32 ((G t : Nat) : Int)) := fun t ht => by rw [hw0, hG]; exact rowW_cell HH.out hds ht
  have hfw : ∀ t, t < d.size → w.frozen? ⟨blk, off + t, none⟩ = false := fun t ht => by rw [hw0]; exact rowW_frozen HH.out hds ht
  have HW := Lib.hid hw0
  have HG := Lib.hid hG
  clear hw0 hG
  clear hds
  have cq : w.cell? ⟨blk, off + pivot, none⟩ = some (.int .u32 ((G pivot : Nat) : Int)) := hcw pivot (by omega)
  obtain ⟨v', hy'⟩ := cell?_setCell_some (w := w) (p := ⟨blk, off + a, none⟩) (x := .int .u32 ((G pivot : Nat) : Int)) (q := ⟨blk, off + pivot, none⟩) cq
  have hlx : a < d.size := by omega
  have hly : pivot < d.size := by omega
  go_enter Try.func69, Try.ntmps69
  go_wp2_with fail
  go_region
  all_goals go_wp2_with fail
  repeat rw [HG.out]
  have hsw : ((w.setCell ⟨blk, off + a, none⟩ (.int .u32 ((d[pivot]! : Nat) : Int))).setCell ⟨blk, off + pivot, none⟩ (.int .u32 ((d[a]! : Nat) : Int))).drew = rowW w blk off (0 + 1) (Sort.swp d a pivot) := rowW_swap HW.out 1 hlx hly
  rw [hsw]
  clear hsw hcw hfw HW HG cq hy' v' G
  obtain ⟨dk, hdk⟩ : ∃ dk, dk = Sort.swp d a pivot := ⟨_, rfl⟩
  obtain ⟨i, hi⟩ : ∃ i, i = a + 1 := ⟨_, rfl⟩
  obtain ⟨j, hj⟩ : ∃ j, j = b - 1 := ⟨_, rfl⟩
  have hs : dk.size = d.size := by rw [hdk]; exact swp_size _ _ _
  have hai : a < i := by omega
  have hij : i ≤ j + 1 := by omega
  have hjb : j < b := by omega
  rw [show ((a : Int) + 1) = ((i : Nat) : Int) by omega, show ((b : Int) - 1) = ((j : Nat) : Int) by omega, ← hdk]
  have HW0 := Lib.hid (rfl : rowW w blk off (0 + 1) dk = rowW w blk off (0 + 1) dk)
  have HDK := Lib.hid hdk
  have HIJ := Lib.hid (And.intro hi hj)
  clear hdk hi hj
  go_loopw [10] (fun v wr => scU w blk off dk (fun x => ltN x dk[a]!) i j v wr) (fun v _ => j + 1 - (intOf v).toNat)
  case atStart => exact ⟨i, _, by first | rfl | go_num, Nat.le_refl _, hij, HW0.out, rfl⟩
  case round =>
    obtain ⟨i', n1, rfl, hii, hij', hw1, hsc⟩ := hrel
    have HSC := Lib.hid hsc
    clear hsc HW0
    obtain ⟨G, hG⟩ : ∃ G : Nat → Nat, ∀ t, G t = dk[t]! := ⟨fun t => dk[t]!, fun _ => rfl⟩
    have hcw : ∀ t, t < d.size → wr.cell? ⟨blk, off + t, none⟩ = some (.int .u32 ((G t : Nat) : Int)) := fun t ht => by rw [hw1, hG]; exact rowW_cell HH.out hs ht
    have hfw : ∀ t, t < d.size → wr.frozen? ⟨blk, off + t, none⟩ = false := fun t ht => by rw [hw1]; exact rowW_frozen HH.out hs ht
    have HW := Lib.hid hw1
    have HG := Lib.hid hG
    clear hw1 hG
    by_cases hle : i' ≤ j
    · have hlz : decide (i' ≤ j) = true := decide_eq_true hle
      go_wp2_with fail
      go_quiet ((go_at_call 67; exact Calls.quiet_of_same (less32_any _ _ _)))
      go_wp2_with fail
      · have ht : ltN (G i') (G a) = true := by assumption
        rw [HG.out, HG.out] at ht
        go_roundw
        case rel => exact ⟨i' + 1, n1 + nq, by go_num, by omega, by omega, by rw [HW.out]; exact rowW_drewN _, (up_go (fun x => ltN x dk[a]!) dk j i' hle ht).symm.trans HSC.out⟩
        case measure => simp [intOf]; omega
      · have ht : ltN (G i') (G a) = false := by assumption
        rw [HG.out, HG.out] at ht
        have HI2 := Lib.hid (HSC.out.symm.trans (up_end (fun x => ltN x dk[a]!) dk j i' (.inr ht)))
        have HT := Lib.hid ht
        have HW2 := Lib.hid (show wr.drewN nq = rowW w blk off (n1 + nq) dk by rw [HW.out]; exact rowW_drewN _)
        clear ht HSC hcw hfw HW HG hlz
        go_loopw [11] (fun v wr => scD w blk off dk (fun x => !ltN x dk[a]!) i' j v wr) (fun v _ => (intOf v).toNat)
        case atStart => exact ⟨j, n1 + nq, rfl, Nat.le_refl _, by omega, HW2.out, rfl⟩
        case round =>
          clear HW2
          obtain ⟨j', n2, rfl, hjj, hij2, hw3, hsd⟩ := hrel
          have HSD := Lib.hid hsd
          clear hsd
          obtain ⟨G, hG⟩ : ∃ G : Nat → Nat, ∀ t, G t = dk[t]! := ⟨fun t => dk[t]!, fun _ => rfl⟩
          have hcw : ∀ t, t < d.size → wr.cell? ⟨blk, off + t, none⟩ = some (.int .u32 ((G t : Nat) : Int)) := fun t ht => by rw [hw3, hG]; exact rowW_cell HH.out hs ht
          have hfw : ∀ t, t < d.size → wr.frozen? ⟨blk, off + t, none⟩ = false := fun t ht => by rw [hw3]; exact rowW_frozen HH.out hs ht
          have HW := Lib.hid hw3
          have HG := Lib.hid hG
          clear hw3 hG
          by_cases hle2 : i' ≤ j'
          · have hlz : decide (i' ≤ j') = true := decide_eq_true hle2
            go_wp2_with fail
            go_quiet ((go_at_call 67; exact Calls.quiet_of_same (less32_any _ _ _)))
            go_wp2_with fail
            · have ht : (!ltN (G j') (G a)) = true := by assumption
              rw [HG.out, HG.out] at ht
              go_roundw
              case rel => exact ⟨j' - 1, n2 + nq, by go_num, by omega, by omega, by rw [HW.out]; exact rowW_drewN _, (dn_go (fun x => !ltN x dk[a]!) dk i' j' hle2 (by omega) ht).symm.trans HSD.out⟩
              case measure => simp [intOf]; omega
            · have ht : (!ltN (G j') (G a)) = false := by assumption
              rw [HG.out, HG.out] at ht
              have HJ2 := Lib.hid (HSD.out.symm.trans (dn_end (fun x => !ltN x dk[a]!) dk i' j' (.inr ht)))
              have hst : i' < j' := by
                rcases Nat.lt_or_ge i' j' with h | h
                · exact h
                · have e : i' = j' := by omega
                  have h2 := HT.out
                  rw [e] at h2
                  simp only [Bool.not_eq_false', Bool.not_eq_true'] at h2 ht
                  rw [h2] at ht
                  cases ht
              clear ht hlz
              go_wp2_with fail
              go_region
              all_goals go_wp2_with fail
              have hsw : ((wr.drewN (nq + 1)).setCell ⟨blk, off + i', none⟩ (.int .u32 ((dk[j']! : Nat) : Int))).setCell ⟨blk, off + j', none⟩ (.int .u32 ((dk[i']! : Nat) : Int)) = rowW w blk off (n2 + (nq + 1)) (Sort.swp dk i' j') := rowW_swap HW.out (nq + 1) (by omega) (by omega)
              repeat rw [HG.out]
              rw [hsw]
              clear hsw
              have he1 := pt_first_go d a b pivot HIJ.out HDK.out HI2.out HJ2.out (by omega)
              obtain ⟨dm, hdm⟩ : ∃ dm, dm = Sort.swp dk i' j' := ⟨_, rfl⟩
              obtain ⟨i3, hi3⟩ : ∃ x, x = i' + 1 := ⟨_, rfl⟩
              obtain ⟨j3, hj3⟩ : ∃ x, x = j' - 1 := ⟨_, rfl⟩
              have hsm : dm.size = d.size := by rw [hdm, swp_size]; exact hs
              rw [← hdm, ← hi3, ← hj3] at he1
              rw [show ((i' : Int) + 1) = ((i3 : Nat) : Int) by omega, show ((j' : Int) - 1) = ((j3 : Nat) : Int) by omega, ← hdm]
              have HE1 := Lib.hid he1
              have hai3 : a < i3 := by omega
              have hij3 : i3 ≤ j3 + 1 := by omega
              have hjb3 : j3 < b := by omega
              clear he1 hcw hfw HW HG HI2 HJ2 HSD HT hdm hi3 hj3 hle hle2 hst hij hij' hij2 hii hjj hai hjb hs HDK HIJ
              go_loopw [10, 11] (fun v1 v2 wr => ptI w blk off a i3 j3 b d dm v1 v2 wr) (fun v1 v2 _ => (intOf v2).toNat + 1 - (intOf v1).toNat)
              case atStart => exact ⟨i3, j3, _, dm, rfl, rfl, hai3, hij3, hjb3, hsm, rfl, rfl⟩
              case round =>
                clear hai3 hij3 hjb3
                obtain ⟨i, j, n3, dk, rfl, rfl, hai, hij, hjb, hs, hw5, heq⟩ := hrel
                have HE := Lib.hid heq
                have HW0 := Lib.hid hw5
                clear heq hw5
                go_wp2_with fail
                go_loopw [10] (fun v wr => scU w blk off dk (fun x => ltN x dk[a]!) i j v wr) (fun v _ => j + 1 - (intOf v).toNat)
                case atStart => exact ⟨i, _, by first | rfl | go_num, Nat.le_refl _, hij, HW0.out, rfl⟩
                case round =>
                  obtain ⟨i', n1, rfl, hii, hij', hw1, hsc⟩ := hrel
                  have HSC := Lib.hid hsc
                  clear hsc HW0
                  obtain ⟨G, hG⟩ : ∃ G : Nat → Nat, ∀ t, G t = dk[t]! := ⟨fun t => dk[t]!, fun _ => rfl⟩
                  have hcw : ∀ t, t < d.size → wr.cell? ⟨blk, off + t, none⟩ = some (.int .u32 ((G t : Nat) : Int)) := fun t ht => by rw [hw1, hG]; exact rowW_cell HH.out hs ht
                  have hfw : ∀ t, t < d.size → wr.frozen? ⟨blk, off + t, none⟩ = false := fun t ht => by rw [hw1]; exact rowW_frozen HH.out hs ht
                  have HW := Lib.hid hw1
                  have HG := Lib.hid hG
                  clear hw1 hG
                  by_cases hle : i' ≤ j
                  · have hlz : decide (i' ≤ j) = true := decide_eq_true hle
                    go_wp2_with fail
                    go_quiet ((go_at_call 67; exact Calls.quiet_of_same (less32_any _ _ _)))
                    go_wp2_with fail
                    · have ht : ltN (G i') (G a) = true := by assumption
                      rw [HG.out, HG.out] at ht
                      go_roundw
                      case rel => exact ⟨i' + 1, n1 + nq, by go_num, by omega, by omega, by rw [HW.out]; exact rowW_drewN _, (up_go (fun x => ltN x dk[a]!) dk j i' hle ht).symm.trans HSC.out⟩
                      case measure => simp [intOf]; omega
                    · have ht : ltN (G i') (G a) = false := by assumption
                      rw [HG.out, HG.out] at ht
                      have HI2 := Lib.hid (HSC.out.symm.trans (up_end (fun x => ltN x dk[a]!) dk j i' (.inr ht)))
                      have HT := Lib.hid ht
                      have HW2 := Lib.hid (show wr.drewN nq = rowW w blk off (n1 + nq) dk by rw [HW.out]; exact rowW_drewN _)
                      clear ht HSC hcw hfw HW HG hlz
                      go_loopw [11] (fun v wr => scD w blk off dk (fun x => !ltN x dk[a]!) i' j v wr) (fun v _ => (intOf v).toNat)
                      case atStart => exact ⟨j, n1 + nq, rfl, Nat.le_refl _, by omega, HW2.out, rfl⟩
                      case round =>
                        clear HW2
                        obtain ⟨j', n2, rfl, hjj, hij2, hw3, hsd⟩ := hrel
                        have HSD := Lib.hid hsd
                        clear hsd
                        obtain ⟨G, hG⟩ : ∃ G : Nat → Nat, ∀ t, G t = dk[t]! := ⟨fun t => dk[t]!, fun _ => rfl⟩
                        have hcw : ∀ t, t < d.size → wr.cell? ⟨blk, off + t, none⟩ = some (.int .u32 ((G t : Nat) : Int)) := fun t ht => by rw [hw3, hG]; exact rowW_cell HH.out hs ht
                        have hfw : ∀ t, t < d.size → wr.frozen? ⟨blk, off + t, none⟩ = false := fun t ht => by rw [hw3]; exact rowW_frozen HH.out hs ht
                        have HW := Lib.hid hw3
                        have HG := Lib.hid hG
                        clear hw3 hG
                        by_cases hle2 : i' ≤ j'
                        · have hlz : decide (i' ≤ j') = true := decide_eq_true hle2
                          go_wp2_with fail
                          go_quiet ((go_at_call 67; exact Calls.quiet_of_same (less32_any _ _ _)))
                          go_wp2_with fail
                          · have ht : (!ltN (G j') (G a)) = true := by assumption
                            rw [HG.out, HG.out] at ht
                            go_roundw
                            case rel => exact ⟨j' - 1, n2 + nq, by go_num, by omega, by omega, by rw [HW.out]; exact rowW_drewN _, (dn_go (fun x => !ltN x dk[a]!) dk i' j' hle2 (by omega) ht).symm.trans HSD.out⟩
                            case measure => simp [intOf]; omega
                          · have ht : (!ltN (G j') (G a)) = false := by assumption
                            rw [HG.out, HG.out] at ht
                            have HJ2 := Lib.hid (HSD.out.symm.trans (dn_end (fun x => !ltN x dk[a]!) dk i' j' (.inr ht)))
                            have hst : i' < j' := by
                              rcases Nat.lt_or_ge i' j' with h | h
                              · exact h
                              · have e : i' = j' := by omega
                                have h2 := HT.out
                                rw [e] at h2
                                simp only [Bool.not_eq_false', Bool.not_eq_true'] at h2 ht
                                rw [h2] at ht
                                cases ht
                            clear ht hlz
                            go_wp2_with fail
                            go_region
                            all_goals go_wp2_with fail
                            have hsw : ((wr.drewN (nq + 1)).setCell ⟨blk, off + i', none⟩ (.int .u32 ((dk[j']! : Nat) : Int))).setCell ⟨blk, off + j', none⟩ (.int .u32 ((dk[i']! : Nat) : Int)) = rowW w blk off (n2 + (nq + 1)) (Sort.swp dk i' j') := rowW_swap HW.out (nq + 1) (by omega) (by omega)
                            go_roundw
                            case rel =>
                              refine ⟨i' + 1, j' - 1, n2 + (nq + 1), Sort.swp dk i' j', by go_num, by go_num, by omega, by omega, by omega, by rw [swp_size]; exact hs, ?_, ?_⟩
                              · repeat rw [HG.out]
                                exact hsw
                              · rw [← pt_go a i j dk HI2.out HJ2.out (by omega)]; exact HE.out
                            case measure => simp [intOf]; omega
                        · have hlz : decide (i' ≤ j') = false := decide_eq_false hle2
                          have HJ2 := Lib.hid (HSD.out.symm.trans (dn_end (fun x => !ltN x dk[a]!) dk i' j' (.inl hle2)))
                          go_wp2_with fail
                          go_quiet ((go_at_call 67; exact Calls.quiet_of_same (less32_any _ _ _)))
                          go_wp2_with fail
                          obtain ⟨W3, hW3⟩ : ∃ W3, W3 = wr.drewN nq := ⟨_, rfl⟩
                          have HW3 := Lib.hid (show W3 = rowW w blk off (n2 + nq) dk by rw [hW3, HW.out]; exact rowW_drewN _)
                          have hc3 : ∀ t, t < d.size → W3.cell? ⟨blk, off + t, none⟩ = some (.int .u32 ((G t : Nat) : Int)) := fun t ht => by rw [hW3]; exact hcw t ht
                          have hf3 : ∀ t, t < d.size → W3.frozen? ⟨blk, off + t, none⟩ = false := fun t ht => by rw [hW3]; exact hfw t ht
                          rw [← hW3]
                          clear hW3 hcw hfw HW
                          have cq : W3.cell? ⟨blk, off + a, none⟩ = some (.int .u32 ((G a : Nat) : Int)) := hc3 a (by omega)
                          obtain ⟨v3, hy3⟩ := cell?_setCell_some (w := W3) (p := ⟨blk, off + j', none⟩) (x := .int .u32 ((G a : Nat) : Int)) (q := ⟨blk, off + a, none⟩) cq
                          have hlj : j' < d.size := by omega
                          have hla : a < d.size := by omega
                          go_wp2_with fail
                          go_region
                          all_goals go_wp2_with fail
                          all_goals go_ret2
                          have e := pt_break a i j dk HI2.out HJ2.out (by omega)
                          have e2 := HE1.out
                          rw [← HE.out, e] at e2
                          refine ⟨by rw [e2]; rfl, n2 + nq + 1, ?_⟩
                          rw [e2]
                          repeat rw [HG.out]
                          exact rowW_swap HW3.out 1 (by omega) (by omega)
                  · have hlz : decide (i' ≤ j) = false := decide_eq_false hle
                    have HI2 := Lib.hid (HSC.out.symm.trans (up_end (fun x => ltN x dk[a]!) dk j i' (.inl hle)))
                    go_wp2_with fail
                    go_quiet ((go_at_call 67; exact Calls.quiet_of_same (less32_any _ _ _)))
                    go_wp2_with fail
                    have HW2 := Lib.hid (show wr.drewN nq = rowW w blk off (n1 + nq) dk by rw [HW.out]; exact rowW_drewN _)
                    clear HSC hcw hfw HW HG hlz
                    go_loopw [11] (fun v wr => scD w blk off dk (fun x => !ltN x dk[a]!) i' j v wr) (fun v _ => (intOf v).toNat)
                    case atStart => exact ⟨j, n1 + nq, rfl, Nat.le_refl _, by omega, HW2.out, rfl⟩
                    case round =>
                      clear HW2
                      obtain ⟨j', n2, rfl, hjj, hij2, hw3, hsd⟩ := hrel
                      have HSD := Lib.hid hsd
                      clear hsd
                      obtain ⟨G, hG⟩ : ∃ G : Nat → Nat, ∀ t, G t = dk[t]! := ⟨fun t => dk[t]!, fun _ => rfl⟩
                      have hcw : ∀ t, t < d.size → wr.cell? ⟨blk, off + t, none⟩ = some (.int .u32 ((G t : Nat) : Int)) := fun t ht => by rw [hw3, hG]; exact rowW_cell HH.out hs ht
                      have hfw : ∀ t, t < d.size → wr.frozen? ⟨blk, off + t, none⟩ = false := fun t ht => by rw [hw3]; exact rowW_frozen HH.out hs ht
                      have HW := Lib.hid hw3
                      have HG := Lib.hid hG
                      clear hw3 hG
                      have hle2 : ¬ i' ≤ j' := by omega
                      have hlz : decide (i' ≤ j') = false := decide_eq_false hle2
                      have HJ2 := Lib.hid (HSD.out.symm.trans (dn_end (fun x => !ltN x dk[a]!) dk i' j' (.inl hle2)))
                      go_wp2_with fail
                      go_quiet ((go_at_call 67; exact Calls.quiet_of_same (less32_any _ _ _)))
                      go_wp2_with fail
                      obtain ⟨W3, hW3⟩ : ∃ W3, W3 = wr.drewN nq := ⟨_, rfl⟩
                      have HW3 := Lib.hid (show W3 = rowW w blk off (n2 + nq) dk by rw [hW3, HW.out]; exact rowW_drewN _)
                      have hc3 : ∀ t, t < d.size → W3.cell? ⟨blk, off + t, none⟩ = some (.int .u32 ((G t : Nat) : Int)) := fun t ht => by rw [hW3]; exact hcw t ht
                      have hf3 : ∀ t, t < d.size → W3.frozen? ⟨blk, off + t, none⟩ = false := fun t ht => by rw [hW3]; exact hfw t ht
                      rw [← hW3]
                      clear hW3 hcw hfw HW
                      have cq : W3.cell? ⟨blk, off + a, none⟩ = some (.int .u32 ((G a : Nat) : Int)) := hc3 a (by omega)
                      obtain ⟨v3, hy3⟩ := cell?_setCell_some (w := W3) (p := ⟨blk, off + j', none⟩) (x := .int .u32 ((G a : Nat) : Int)) (q := ⟨blk, off + a, none⟩) cq
                      have hlj : j' < d.size := by omega
                      have hla : a < d.size := by omega
                      go_wp2_with fail
                      go_region
                      all_goals go_wp2_with fail
                      all_goals go_ret2
                      have e := pt_break a i j dk HI2.out HJ2.out (by omega)
                      have e2 := HE1.out
                      rw [← HE.out, e] at e2
                      refine ⟨by rw [e2]; rfl, n2 + nq + 1, ?_⟩
                      rw [e2]
                      repeat rw [HG.out]
                      exact rowW_swap HW3.out 1 (by omega) (by omega)
          · have hlz : decide (i' ≤ j') = false := decide_eq_false hle2
            have HJ2 := Lib.hid (HSD.out.symm.trans (dn_end (fun x => !ltN x dk[a]!) dk i' j' (.inl hle2)))
            go_wp2_with fail
            go_quiet ((go_at_call 67; exact Calls.quiet_of_same (less32_any _ _ _)))
            go_wp2_with fail
            obtain ⟨W3, hW3⟩ : ∃ W3, W3 = wr.drewN nq := ⟨_, rfl⟩
            have HW3 := Lib.hid (show W3 = rowW w blk off (n2 + nq) dk by rw [hW3, HW.out]; exact rowW_drewN _)
            have hc3 : ∀ t, t < d.size → W3.cell? ⟨blk, off + t, none⟩ = some (.int .u32 ((G t : Nat) : Int)) := fun t ht => by rw [hW3]; exact hcw t ht
            have hf3 : ∀ t, t < d.size → W3.frozen? ⟨blk, off + t, none⟩ = false := fun t ht => by rw [hW3]; exact hfw t ht
            rw [← hW3]
            clear hW3 hcw hfw HW
            have cq : W3.cell? ⟨blk, off + a, none⟩ = some (.int .u32 ((G a : Nat) : Int)) := hc3 a (by omega)
            obtain ⟨v3, hy3⟩ := cell?_setCell_some (w := W3) (p := ⟨blk, off + j', none⟩) (x := .int .u32 ((G a : Nat) : Int)) (q := ⟨blk, off + a, none⟩) cq
            have hlj : j' < d.size := by omega
            have hla : a < d.size := by omega
            go_wp2_with fail
            go_region
            all_goals go_wp2_with fail
            all_goals go_ret2
            have e := pt_first_break d a b pivot HIJ.out HDK.out HI2.out HJ2.out (by omega)
            refine ⟨by rw [e]; rfl, n2 + nq + 1, ?_⟩
            rw [e]
            repeat rw [HG.out]
            exact rowW_swap HW3.out 1 (by omega) (by omega)
    · have hlz : decide (i' ≤ j) = false := decide_eq_false hle
      have HI2 := Lib.hid (HSC.out.symm.trans (up_end (fun x => ltN x dk[a]!) dk j i' (.inl hle)))
      go_wp2_with fail
      go_quiet ((go_at_call 67; exact Calls.quiet_of_same (less32_any _ _ _)))
      go_wp2_with fail
      have HW2 := Lib.hid (show wr.drewN nq = rowW w blk off (n1 + nq) dk by rw [HW.out]; exact rowW_drewN _)
      clear HSC hcw hfw HW HG hlz
      go_loopw [11] (fun v wr => scD w blk off dk (fun x => !ltN x dk[a]!) i' j v wr) (fun v _ => (intOf v).toNat)
      case atStart => exact ⟨j, n1 + nq, rfl, Nat.le_refl _, by omega, HW2.out, rfl⟩
      case round =>
        clear HW2
        obtain ⟨j', n2, rfl, hjj, hij2, hw3, hsd⟩ := hrel
        have HSD := Lib.hid hsd
        clear hsd
        obtain ⟨G, hG⟩ : ∃ G : Nat → Nat, ∀ t, G t = dk[t]! := ⟨fun t => dk[t]!, fun _ => rfl⟩
        have hcw : ∀ t, t < d.size → wr.cell? ⟨blk, off + t, none⟩ = some (.int .u32 ((G t : Nat) : Int)) := fun t ht => by rw [hw3, hG]; exact rowW_cell HH.out hs ht
        have hfw : ∀ t, t < d.size → wr.frozen? ⟨blk, off + t, none⟩ = false := fun t ht => by rw [hw3]; exact rowW_frozen HH.out hs ht
        have HW := Lib.hid hw3
        have HG := Lib.hid hG
        clear hw3 hG
        have hle2 : ¬ i' ≤ j' := by omega
        have hlz : decide (i' ≤ j') = false := decide_eq_false hle2
        have HJ2 := Lib.hid (HSD.out.symm.trans (dn_end (fun x => !ltN x dk[a]!) dk i' j' (.inl hle2)))
        go_wp2_with fail
        go_quiet ((go_at_call 67; exact Calls.quiet_of_same (less32_any _ _ _)))
        go_wp2_with fail
        obtain ⟨W3, hW3⟩ : ∃ W3, W3 = wr.drewN nq := ⟨_, rfl⟩
        have HW3 := Lib.hid (show W3 = rowW w blk off (n2 + nq) dk by rw [hW3, HW.out]; exact rowW_drewN _)
        have hc3 : ∀ t, t < d.size → W3.cell? ⟨blk, off + t, none⟩ = some (.int .u32 ((G t : Nat) : Int)) := fun t ht => by rw [hW3]; exact hcw t ht
        have hf3 : ∀ t, t < d.size → W3.frozen? ⟨blk, off + t, none⟩ = false := fun t ht => by rw [hW3]; exact hfw t ht
        rw [← hW3]
        clear hW3 hcw hfw HW
        have cq : W3.cell? ⟨blk, off + a, none⟩ = some (.int .u32 ((G a : Nat) : Int)) := hc3 a (by omega)
        obtain ⟨v3, hy3⟩ := cell?_setCell_some (w := W3) (p := ⟨blk, off + j', none⟩) (x := .int .u32 ((G a : Nat) : Int)) (q := ⟨blk, off + a, none⟩) cq
        have hlj : j' < d.size := by omega
        have hla : a < d.size := by omega
        go_wp2_with fail
        go_region
        all_goals go_wp2_with fail
        all_goals go_ret2
        have e := pt_first_break d a b pivot HIJ.out HDK.out HI2.out HJ2.out (by omega)
        refine ⟨by rw [e]; rfl, n2 + nq + 1, ?_⟩
        rw [e]
        repeat rw [HG.out]
        exact rowW_swap HW3.out 1 (by omega) (by omega)
end Go.Proofs.Ytmflopeedofkhaa

namespace Go.Proofs.Ytmflopeedofkhaa
set_option linter.unusedSimpArgs false
set_option linter.unusedVariables false
set_option maxRecDepth 100000
open Go.RowKit

theorem ss_go (d : Array Nat) (b i : Nat) (h : i < b) (hl : ltN d[i]! d[i - 1]! = false) : Sort.scanSorted ltN d b i = Sort.scanSorted ltN d b (i + 1) := by
  rw [Sort.scanSorted]; simp [h, hl]
theorem ss_stop (d : Array Nat) (b i : Nat) (h : ¬ i < b ∨ ltN d[i]! d[i - 1]! = true) : Sort.scanSorted ltN d b i = i := by
  rw [Sort.scanSorted]
  rcases h with h | h <;> simp [h]
theorem shd_go (j : Nat) (d : Array Nat) (hj : 1 ≤ j) (hl : ltN d[j]! d[j - 1]! = true) : Sort.shiftDown ltN j d = Sort.shiftDown ltN (j - 1) (Sort.swp d j (j - 1)) := by
  obtain ⟨k, rfl⟩ : ∃ k, j = k + 1 := ⟨j - 1, by omega⟩
  rw [Sort.shiftDown]
  simp only [Nat.add_sub_cancel] at hl ⊢
  simp [hl]
theorem shd_stop (j : Nat) (d : Array Nat) (h : j = 0 ∨ ltN d[j]! d[j - 1]! = false) : Sort.shiftDown ltN j d = d := by
  cases j with
  | zero => rw [Sort.shiftDown]
  | succ k =>
    rw [Sort.shiftDown]
    simp only [Nat.add_sub_cancel] at h
    rcases h with h | h
    · omega
    · simp [h]
theorem shu_go (b j : Nat) (d : Array Nat) (hj : j < b) (hl : ltN d[j]! d[j - 1]! = true) : Sort.shiftUp ltN b j d = Sort.shiftUp ltN b (j + 1) (Sort.swp d j (j - 1)) := by
  rw [Sort.shiftUp]; simp [hj, hl]
theorem shu_stop (b j : Nat) (d : Array Nat) (h : ¬ j < b ∨ ltN d[j]! d[j - 1]! = false) : Sort.shiftUp ltN b j d = d := by
  rw [Sort.shiftUp]
  rcases h with h | h
  · simp [h]
  · by_cases hj : j < b <;> simp [hj, h]
theorem pins_true (a b s i : Nat) (d : Array Nat) (hs : s < 5) (hK : Sort.scanSorted ltN d b i = b) : Sort.partialIns ltN a b (5 - s) i d = (d, true) := by
  rw [show 5 - s = (4 - s) + 1 by omega, Sort.partialIns]
  simp only [hK, if_true]
theorem pins_short (a b s i k : Nat) (d : Array Nat) (hs : s < 5) (hK : Sort.scanSorted ltN d b i = k) (hk : k ≠ b) (h50 : b - a < 50) : Sort.partialIns ltN a b (5 - s) i d = (d, false) := by
  rw [show 5 - s = (4 - s) + 1 by omega, Sort.partialIns]
  simp only [hK, if_neg hk, if_pos h50]
def fixD (a k : Nat) (d : Array Nat) : Array Nat := if k - a ≥ 2 then Sort.shiftDown ltN (k - 1) d else d
def fixU (b k : Nat) (d : Array Nat) : Array Nat := if b - k ≥ 2 then Sort.shiftUp ltN b (k + 1) d else d
theorem pins_go (a b s i k : Nat) (d : Array Nat) (hs : s < 5) (hK : Sort.scanSorted ltN d b i = k) (hk : k ≠ b) (h50 : ¬ b - a < 50) :
    Sort.partialIns ltN a b (5 - s) i d = Sort.partialIns ltN a b (5 - (s + 1)) k (fixU b k (fixD a k (Sort.swp d k (k - 1)))) := by
  rw [show 5 - s = (4 - s) + 1 by omega, Sort.partialIns]
  simp only [hK, if_neg hk, if_neg h50]
  rw [show 5 - (s + 1) = 4 - s by omega]
  rfl

def piI (w : World) (blk off a b : Nat) (d : Array Nat) (v1 v2 : Value) (wr : World) : Prop :=
  ∃ (i s n : Nat) (dk : Array Nat), v1 = .int .i64 i ∧ v2 = .int .i64 s ∧ s ≤ 5 ∧ a < i ∧ i ≤ b ∧ dk.size = d.size ∧ wr = rowW w blk off n dk ∧ Sort.partialIns ltN a b (5 - s) i dk = Sort.partialIns ltN a b 5 (a + 1) d
def ssI (w : World) (blk off b i : Nat) (dk : Array Nat) (v : Value) (wr : World) : Prop :=
  ∃ k n : Nat, v = .int .i64 k ∧ i ≤ k ∧ k ≤ b ∧ wr = rowW w blk off n dk ∧ Sort.scanSorted ltN dk b k = Sort.scanSorted ltN dk b i
def sdnI (w : World) (blk off k : Nat) (d d0 : Array Nat) (v : Value) (wr : World) : Prop :=
  ∃ (j n : Nat) (dj : Array Nat), v = .int .i64 j ∧ j ≤ k - 1 ∧ dj.size = d.size ∧ wr = rowW w blk off n dj ∧ Sort.shiftDown ltN j dj = Sort.shiftDown ltN (k - 1) d0
def supI (w : World) (blk off b k : Nat) (d d0 : Array Nat) (v : Value) (wr : World) : Prop :=
  ∃ (j n : Nat) (dj : Array Nat), v = .int .i64 j ∧ k + 1 ≤ j ∧ j ≤ b ∧ dj.size = d.size ∧ wr = rowW w blk off n dj ∧ Sort.shiftUp ltN b j dj = Sort.shiftUp ltN b (k + 1) d0
set_option maxHeartbeats 6400000 in
set_option maxRecDepth 100000 in
theorem pins32_any (blk off cap a b : Nat) (d : Array Nat) (w : World) (hH : Sort.Holds e32 w blk off d) (hab : a < b) (hb : b ≤ d.size) (hsz : d.size < 4611686018427387904) :
    Calls Try.prog 66 #[.slice (some ⟨blk, off, none⟩) d.size cap, .int .i64 a, .int .i64 b] w fun e w' =>
      e = .returned (.bool (Sort.partialInsertionSort ltN d a b).2) ∧ ∃ n, w' = rowW w blk off n (Sort.partialInsertionSort ltN d a b).1 := by
  have HH := Lib.hid hH
  clear hH
  go_enter Try.func66, Try.ntmps66
  go_wp2_with fail
  go_loopw [7, 8] (fun v1 v2 wr => piI w blk off a b d v1 v2 wr) (fun _ v2 _ => 5 - (intOf v2).toNat)
  case atStart => exact ⟨a + 1, 0, 0, d, by go_num, rfl, by omega, by omega, by omega, rfl, rowW_start HH.out, rfl⟩
  case round =>
    obtain ⟨i, s, n, dk, rfl, rfl, hs5, hai, hib, hsk, hwr, hO⟩ := hrel
    have HO := Lib.hid hO
    have HW0 := Lib.hid hwr
    clear hO hwr
    by_cases hs : s < 5
    · have hsz5 : decide ((s : Int) < 5) = true := decide_eq_true (by omega)
      go_wp2_with fail
      go_loopw [7] (fun v wr => ssI w blk off b i dk v wr) (fun v _ => b - (intOf v).toNat)
      case atStart => exact ⟨i, n, rfl, Nat.le_refl _, hib, HW0.out, rfl⟩
      case round =>
        obtain ⟨k, n2, rfl, hik, hkb, hw2, hS⟩ := hrel
        have HS := Lib.hid hS
        clear hS HW0
        obtain ⟨G, hG⟩ : ∃ G : Nat → Nat, ∀ t, G t = dk[t]! := ⟨fun t => dk[t]!, fun _ => rfl⟩
        have hcw : ∀ t, t < d.size → wr.cell? ⟨blk, off + t, none⟩ = some (.int .u32 ((G t : Nat) : Int)) := fun t ht => by rw [hw2, hG]; exact rowW_cell HH.out hsk ht
        have hfw : ∀ t, t < d.size → wr.frozen? ⟨blk, off + t, none⟩ = false := fun t ht => by rw [hw2]; exact rowW_frozen HH.out hsk ht
        have HW := Lib.hid hw2
        have HG := Lib.hid hG
        clear hw2 hG
        by_cases hkl : k < b
        · have hkz : decide (k < b) = true := decide_eq_true hkl
          have hke : ((k : Int) == (b : Int)) = false := by rw [beq_eq_false_iff_ne]; omega
          go_wp2_with fail
          go_quiet ((go_at_call 67; exact Calls.quiet_of_same (less32_any _ _ _)))
          go_wp2_with fail
          · have hl : (!ltN (G k) (G (k - 1))) = true := by assumption
            rw [Bool.not_eq_true', HG.out, HG.out] at hl
            go_roundw
            case rel => exact ⟨k + 1, n2 + nq, by go_num, by omega, by omega, by rw [HW.out]; exact rowW_drewN _, by rw [← HS.out, ss_go dk b k hkl hl]⟩
            case measure => simp [intOf]; omega
          · have hl : (!ltN (G k) (G (k - 1))) = false := by assumption
            rw [Bool.not_eq_false', HG.out, HG.out] at hl
            have HK := Lib.hid (HS.out.symm.trans (ss_stop dk b k (.inr hl)))
            have h50 : b - a < 50 := by omega
            go_wp2_with fail
            go_ret
            have hv : Sort.partialInsertionSort ltN d a b = (dk, false) := by
              unfold Sort.partialInsertionSort
              rw [← HO.out, pins_short a b s i k dk hs HK.out (by omega) h50]
            rw [hv]
            exact ⟨rfl, n2 + nq, by rw [HW.out]; exact rowW_drewN _⟩
          · have hl : (!ltN (G k) (G (k - 1))) = false := by assumption
            rw [Bool.not_eq_false', HG.out, HG.out] at hl
            have HK := Lib.hid (HS.out.symm.trans (ss_stop dk b k (.inr hl)))
            have h50 : ¬ b - a < 50 := by omega
            clear hl hkz HS hke
            go_wp2_with fail
            by_cases hka : 2 ≤ k - a
            · have hkaz : decide ((2 : Int) ≤ (k : Int) - (a : Int)) = true := decide_eq_true (by omega)
              go_region
              all_goals go_wp2_with fail
              repeat rw [HG.out]
              have hsw : ((wr.drewN (nq + 1)).setCell ⟨blk, off + k, none⟩ (.int .u32 ((dk[k - 1]! : Nat) : Int))).setCell ⟨blk, off + (k - 1), none⟩ (.int .u32 ((dk[k]! : Nat) : Int)) = rowW w blk off (n2 + (nq + 1)) (Sort.swp dk k (k - 1)) := rowW_swap HW.out (nq + 1) (by omega) (by omega)
              rw [hsw]
              obtain ⟨d0, hd0⟩ : ∃ d0, d0 = Sort.swp dk k (k - 1) := ⟨_, rfl⟩
              have hs0 : d0.size = d.size := by rw [hd0, swp_size]; exact hsk
              have HG0 := Lib.hid (pins_go a b s i k dk hs HK.out (by omega) h50)
              rw [← hd0] at HG0 ⊢
              clear hsw hd0 hcw hfw HW HG HK hsk
              go_loopw [9] (fun v wr => sdnI w blk off k d d0 v wr) (fun v _ => (intOf v).toNat)
              case atStart => exact ⟨k - 1, _, d0, by congr 1; omega, Nat.le_refl _, hs0, rfl, rfl⟩
              case round =>
                obtain ⟨j, n3, dd, rfl, hjk, hsd, hw3, hDn⟩ := hrel
                have HDn := Lib.hid hDn
                clear hDn
                by_cases hj : 1 ≤ j
                · have hjz : decide ((1 : Int) ≤ (j : Int)) = true := decide_eq_true (by omega)
                  obtain ⟨G, hG⟩ : ∃ G : Nat → Nat, ∀ t, G t = dd[t]! := ⟨fun t => dd[t]!, fun _ => rfl⟩
                  have hcw : ∀ t, t < d.size → wr.cell? ⟨blk, off + t, none⟩ = some (.int .u32 ((G t : Nat) : Int)) := fun t ht => by rw [hw3, hG]; exact rowW_cell HH.out hsd ht
                  have hfw : ∀ t, t < d.size → wr.frozen? ⟨blk, off + t, none⟩ = false := fun t ht => by rw [hw3]; exact rowW_frozen HH.out hsd ht
                  have HW := Lib.hid hw3
                  have HG := Lib.hid hG
                  clear hw3 hG
                  go_wp2_with fail
                  go_quiet ((go_at_call 67; exact Calls.quiet_of_same (less32_any _ _ _)))
                  obtain ⟨L, hL⟩ : ∃ L, L = ltN (G j) (G (j - 1)) := ⟨_, rfl⟩
                  rw [← hL]
                  have HL := Lib.hid (show L = ltN dd[j]! dd[j - 1]! by rw [hL, HG.out, HG.out])
                  clear hL
                  cases L
                  · have HD := Lib.hid (show fixD a k d0 = dd by unfold fixD; rw [if_pos hka, ← HDn.out, shd_stop j dd (.inr HL.out.symm)])
                    obtain ⟨n5, HW5⟩ : ∃ n5, Hid (wr.drewN nq = rowW w blk off n5 dd) := ⟨_, Lib.hid (by rw [HW.out]; exact rowW_drewN _)⟩
                    generalize wr.drewN nq = w5 at HW5 ⊢
                    clear hcw hfw HG HW HL HDn
                    by_cases hbk : 2 ≤ b - k
                    · have hbz : decide ((2 : Int) ≤ (b : Int) - (k : Int)) = true := decide_eq_true (by omega)
                      go_wp2_with fail
                      go_loopw [10] (fun v wr => supI w blk off b k d dd v wr) (fun v _ => b - (intOf v).toNat)
                      case atStart => exact ⟨k + 1, _, dd, by go_num, Nat.le_refl _, by omega, hsd, HW5.out, rfl⟩
                      case round =>
                        obtain ⟨j, n4, du, rfl, hkj, hjb, hsu, hw4, hU⟩ := hrel
                        have HU2 := Lib.hid hU
                        clear hU
                        by_cases hj : j < b
                        · have hjz : decide (j < b) = true := decide_eq_true hj
                          obtain ⟨G, hG⟩ : ∃ G : Nat → Nat, ∀ t, G t = du[t]! := ⟨fun t => du[t]!, fun _ => rfl⟩
                          have hcw : ∀ t, t < d.size → wr.cell? ⟨blk, off + t, none⟩ = some (.int .u32 ((G t : Nat) : Int)) := fun t ht => by rw [hw4, hG]; exact rowW_cell HH.out hsu ht
                          have hfw : ∀ t, t < d.size → wr.frozen? ⟨blk, off + t, none⟩ = false := fun t ht => by rw [hw4]; exact rowW_frozen HH.out hsu ht
                          have HW := Lib.hid hw4
                          have HG := Lib.hid hG
                          clear hw4 hG
                          go_wp2_with fail
                          go_quiet ((go_at_call 67; exact Calls.quiet_of_same (less32_any _ _ _)))
                          go_wp2_with fail
                          · have hl : (!ltN (G j) (G (j - 1))) = true := by assumption
                            rw [Bool.not_eq_true', HG.out, HG.out] at hl
                            have HU := Lib.hid (show fixU b k dd = du by unfold fixU; rw [if_pos hbk, ← HU2.out, shu_stop b j du (.inr hl)])
                            clear hl
                            go_wp2_with fail
                            go_roundw
                            case rel => exact ⟨k, s + 1, _, du, rfl, by go_num, by omega, by omega, by omega, hsu, (by rw [HW.out]; exact rowW_drewN _), by rw [← HO.out, HG0.out, HD.out, HU.out]⟩
                            case measure => simp [intOf]; omega
                          · have hl : (!ltN (G j) (G (j - 1))) = false := by assumption
                            rw [Bool.not_eq_false', HG.out, HG.out] at hl
                            go_region
                            all_goals go_wp2_with fail
                            go_roundw
                            case rel =>
                              refine ⟨j + 1, n4 + (nq + 1), Sort.swp du j (j - 1), by go_num, by omega, by omega, by rw [swp_size]; exact hsu, ?_, ?_⟩
                              · repeat rw [HG.out]
                                exact rowW_swap HW.out (nq + 1) (by omega) (by omega)
                              · rw [← HU2.out, shu_go b j du hj hl]
                            case measure => simp [intOf]; omega
                        · have hjz : decide (j < b) = false := decide_eq_false hj
                          have HU := Lib.hid (show fixU b k dd = du by unfold fixU; rw [if_pos hbk, ← HU2.out, shu_stop b j du (.inl hj)])
                          have HW := Lib.hid hw4
                          clear hw4
                          go_wp2_with fail
                          go_roundw
                          case rel => exact ⟨k, s + 1, _, du, rfl, by go_num, by omega, by omega, by omega, hsu, HW.out, by rw [← HO.out, HG0.out, HD.out, HU.out]⟩
                          case measure => simp [intOf]; omega
                    · have hbz : decide ((2 : Int) ≤ (b : Int) - (k : Int)) = false := decide_eq_false (by omega)
                      have HU := Lib.hid (show fixU b k dd = dd by unfold fixU; rw [if_neg (by omega)])
                      go_wp2_with fail
                      go_roundw
                      case rel => exact ⟨k, s + 1, _, dd, rfl, by go_num, by omega, by omega, by omega, hsd, HW5.out, by rw [← HO.out, HG0.out, HD.out, HU.out]⟩
                      case measure => simp [intOf]; omega
                  · go_wp2_with fail
                    go_region
                    all_goals go_wp2_with fail
                    go_roundw
                    case rel =>
                      refine ⟨j - 1, n3 + (nq + 1), Sort.swp dd j (j - 1), by congr 1; omega, by omega, by rw [swp_size]; exact hsd, ?_, ?_⟩
                      · repeat rw [HG.out]
                        exact rowW_swap HW.out (nq + 1) (by omega) (by omega)
                      · rw [← HDn.out, shd_go j dd hj HL.out.symm]
                    case measure => simp [intOf]; omega
                · have hjz : decide ((1 : Int) ≤ (j : Int)) = false := decide_eq_false (by omega)
                  have HD := Lib.hid (show fixD a k d0 = dd by unfold fixD; rw [if_pos hka, ← HDn.out, shd_stop j dd (.inl (by omega))])
                  have HW5 := Lib.hid hw3
                  clear hw3 HDn
                  by_cases hbk : 2 ≤ b - k
                  · have hbz : decide ((2 : Int) ≤ (b : Int) - (k : Int)) = true := decide_eq_true (by omega)
                    go_wp2_with fail
                    go_loopw [10] (fun v wr => supI w blk off b k d dd v wr) (fun v _ => b - (intOf v).toNat)
                    case atStart => exact ⟨k + 1, _, dd, by go_num, Nat.le_refl _, by omega, hsd, HW5.out, rfl⟩
                    case round =>
                      obtain ⟨j, n4, du, rfl, hkj, hjb, hsu, hw4, hU⟩ := hrel
                      have HU2 := Lib.hid hU
                      clear hU
                      by_cases hj : j < b
                      · have hjz : decide (j < b) = true := decide_eq_true hj
                        obtain ⟨G, hG⟩ : ∃ G : Nat → Nat, ∀ t, G t = du[t]! := ⟨fun t => du[t]!, fun _ => rfl⟩
                        have hcw : ∀ t, t < d.size → wr.cell? ⟨blk, off + t, none⟩ = some (.int .u32 ((G t : Nat) : Int)) := fun t ht => by rw [hw4, hG]; exact rowW_cell HH.out hsu ht
                        have hfw : ∀ t, t < d.size → wr.frozen? ⟨blk, off + t, none⟩ = false := fun t ht => by rw [hw4]; exact rowW_frozen HH.out hsu ht
                        have HW := Lib.hid hw4
                        have HG := Lib.hid hG
                        clear hw4 hG
                        go_wp2_with fail
                        go_quiet ((go_at_call 67; exact Calls.quiet_of_same (less32_any _ _ _)))
                        go_wp2_with fail
                        · have hl : (!ltN (G j) (G (j - 1))) = true := by assumption
                          rw [Bool.not_eq_true', HG.out, HG.out] at hl
                          have HU := Lib.hid (show fixU b k dd = du by unfold fixU; rw [if_pos hbk, ← HU2.out, shu_stop b j du (.inr hl)])
                          clear hl
                          go_wp2_with fail
                          go_roundw
                          case rel => exact ⟨k, s + 1, _, du, rfl, by go_num, by omega, by omega, by omega, hsu, (by rw [HW.out]; exact rowW_drewN _), by rw [← HO.out, HG0.out, HD.out, HU.out]⟩
                          case measure => simp [intOf]; omega
                        · have hl : (!ltN (G j) (G (j - 1))) = false := by assumption
                          rw [Bool.not_eq_false', HG.out, HG.out] at hl
                          go_region
                          all_goals go_wp2_with fail
                          go_roundw
                          case rel =>
                            refine ⟨j + 1, n4 + (nq + 1), Sort.swp du j (j - 1), by go_num, by omega, by omega, by rw [swp_size]; exact hsu, ?_, ?_⟩
                            · repeat rw [HG.out]
                              exact rowW_swap HW.out (nq + 1) (by omega) (by omega)
                            · rw [← HU2.out, shu_go b j du hj hl]
                          case measure => simp [intOf]; omega
                      · have hjz : decide (j < b) = false := decide_eq_false hj
                        have HU := Lib.hid (show fixU b k dd = du by unfold fixU; rw [if_pos hbk, ← HU2.out, shu_stop b j du (.inl hj)])
                        have HW := Lib.hid hw4
                        clear hw4
                        go_wp2_with fail
                        go_roundw
                        case rel => exact ⟨k, s + 1, _, du, rfl, by go_num, by omega, by omega, by omega, hsu, HW.out, by rw [← HO.out, HG0.out, HD.out, HU.out]⟩
                        case measure => simp [intOf]; omega
                  · have hbz : decide ((2 : Int) ≤ (b : Int) - (k : Int)) = false := decide_eq_false (by omega)
                    have HU := Lib.hid (show fixU b k dd = dd by unfold fixU; rw [if_neg (by omega)])
                    go_wp2_with fail
                    go_roundw
                    case rel => exact ⟨k, s + 1, _, dd, rfl, by go_num, by omega, by omega, by omega, hsd, HW5.out, by rw [← HO.out, HG0.out, HD.out, HU.out]⟩
                    case measure => simp [intOf]; omega
            · have hkaz : decide ((2 : Int) ≤ (k : Int) - (a : Int)) = false := decide_eq_false (by omega)
              go_region
              repeat rw [HG.out]
              have hsw : ((wr.drewN (nq + 1)).setCell ⟨blk, off + k, none⟩ (.int .u32 ((dk[k - 1]! : Nat) : Int))).setCell ⟨blk, off + (k - 1), none⟩ (.int .u32 ((dk[k]! : Nat) : Int)) = rowW w blk off (n2 + (nq + 1)) (Sort.swp dk k (k - 1)) := rowW_swap HW.out (nq + 1) (by omega) (by omega)
              rw [hsw]
              obtain ⟨d0, hd0⟩ : ∃ d0, d0 = Sort.swp dk k (k - 1) := ⟨_, rfl⟩
              have hs0 : d0.size = d.size := by rw [hd0, swp_size]; exact hsk
              have HG0 := Lib.hid (pins_go a b s i k dk hs HK.out (by omega) h50)
              rw [← hd0] at HG0 ⊢
              clear hsw hd0 hcw hfw HW HG HK hsk
              obtain ⟨dd, rfl⟩ : ∃ dd, dd = d0 := ⟨_, rfl⟩
              have HD := Lib.hid (show fixD a k dd = dd by unfold fixD; rw [if_neg (by omega)])
              have hsd := hs0
              by_cases hbk : 2 ≤ b - k
              · have hbz : decide ((2 : Int) ≤ (b : Int) - (k : Int)) = true := decide_eq_true (by omega)
                go_wp2_with fail
                go_loopw [10] (fun v wr => supI w blk off b k d dd v wr) (fun v _ => b - (intOf v).toNat)
                case atStart => exact ⟨k + 1, _, dd, by go_num, Nat.le_refl _, by omega, hsd, rfl, rfl⟩
                case round =>
                  obtain ⟨j, n4, du, rfl, hkj, hjb, hsu, hw4, hU⟩ := hrel
                  have HU2 := Lib.hid hU
                  clear hU
                  by_cases hj : j < b
                  · have hjz : decide (j < b) = true := decide_eq_true hj
                    obtain ⟨G, hG⟩ : ∃ G : Nat → Nat, ∀ t, G t = du[t]! := ⟨fun t => du[t]!, fun _ => rfl⟩
                    have hcw : ∀ t, t < d.size → wr.cell? ⟨blk, off + t, none⟩ = some (.int .u32 ((G t : Nat) : Int)) := fun t ht => by rw [hw4, hG]; exact rowW_cell HH.out hsu ht
                    have hfw : ∀ t, t < d.size → wr.frozen? ⟨blk, off + t, none⟩ = false := fun t ht => by rw [hw4]; exact rowW_frozen HH.out hsu ht
                    have HW := Lib.hid hw4
                    have HG := Lib.hid hG
                    clear hw4 hG
                    go_wp2_with fail
                    go_quiet ((go_at_call 67; exact Calls.quiet_of_same (less32_any _ _ _)))
                    go_wp2_with fail
                    · have hl : (!ltN (G j) (G (j - 1))) = true := by assumption
                      rw [Bool.not_eq_true', HG.out, HG.out] at hl
                      have HU := Lib.hid (show fixU b k dd = du by unfold fixU; rw [if_pos hbk, ← HU2.out, shu_stop b j du (.inr hl)])
                      clear hl
                      go_wp2_with fail
                      go_roundw
                      case rel => exact ⟨k, s + 1, _, du, rfl, by go_num, by omega, by omega, by omega, hsu, (by rw [HW.out]; exact rowW_drewN _), by rw [← HO.out, HG0.out, HD.out, HU.out]⟩
                      case measure => simp [intOf]; omega
                    · have hl : (!ltN (G j) (G (j - 1))) = false := by assumption
                      rw [Bool.not_eq_false', HG.out, HG.out] at hl
                      go_region
                      all_goals go_wp2_with fail
                      go_roundw
                      case rel =>
                        refine ⟨j + 1, n4 + (nq + 1), Sort.swp du j (j - 1), by go_num, by omega, by omega, by rw [swp_size]; exact hsu, ?_, ?_⟩
                        · repeat rw [HG.out]
                          exact rowW_swap HW.out (nq + 1) (by omega) (by omega)
                        · rw [← HU2.out, shu_go b j du hj hl]
                      case measure => simp [intOf]; omega
                  · have hjz : decide (j < b) = false := decide_eq_false hj
                    have HU := Lib.hid (show fixU b k dd = du by unfold fixU; rw [if_pos hbk, ← HU2.out, shu_stop b j du (.inl hj)])
                    have HW := Lib.hid hw4
                    clear hw4
                    go_wp2_with fail
                    go_roundw
                    case rel => exact ⟨k, s + 1, _, du, rfl, by go_num, by omega, by omega, by omega, hsu, HW.out, by rw [← HO.out, HG0.out, HD.out, HU.out]⟩
                    case measure => simp [intOf]; omega
              · have hbz : decide ((2 : Int) ≤ (b : Int) - (k : Int)) = false := decide_eq_false (by omega)
                have HU := Lib.hid (show fixU b k dd = dd by unfold fixU; rw [if_neg (by omega)])
                go_wp2_with fail
                go_roundw
                case rel => exact ⟨k, s + 1, _, dd, rfl, by go_num, by omega, by omega, by omega, hsd, rfl, by rw [← HO.out, HG0.out, HD.out, HU.out]⟩
                case measure => simp [intOf]; omega
        · have hkz : decide (k < b) = false := decide_eq_false hkl
          have hke : ((k : Int) == (b : Int)) = true := by rw [beq_iff_eq]; omega
          have HK := Lib.hid (HS.out.symm.trans (ss_stop dk b k (.inl hkl)))
          go_wp2_with fail
          go_quiet ((go_at_call 67; exact Calls.quiet_of_same (less32_any _ _ _)))
          go_wp2_with fail
          go_ret
          have hv : Sort.partialInsertionSort ltN d a b = (dk, true) := by
            unfold Sort.partialInsertionSort
            rw [← HO.out, pins_true a b s i dk hs (by rw [HK.out]; omega)]
          rw [hv]
          exact ⟨rfl, n2 + nq, by rw [HW.out]; exact rowW_drewN _⟩
    · obtain rfl : s = 5 := by omega
      go_wp2_with fail
      go_ret
      have hv : Sort.partialInsertionSort ltN d a b = (dk, false) := by
        unfold Sort.partialInsertionSort
        rw [← HO.out]; rfl
      rw [hv]
      exact ⟨rfl, n, HW0.out⟩
end Go.Proofs.Ytmflopeedofkhaa

namespace Go.Proofs.Ytmflopeedofkhaa
set_option linter.unusedSimpArgs false
set_option linter.unusedVariables false
set_option maxRecDepth 100000
open Go.RowKit

/-- of what was there only blocks of fp may have turned -/
structure OnlyB (fp : Nat → Prop) (W W' : World) : Prop where
  os : W'.os = W.os
  tape : W'.tape = W.tape
  output : W'.output = W.output
  size : W.heap.size ≤ W'.heap.size
  same : ∀ k, k < W.heap.size → ¬ fp k → W'.heap[k]? = W.heap[k]?
theorem OnlyB.refl (fp : Nat → Prop) (W : World) : OnlyB fp W W := ⟨rfl, rfl, rfl, Nat.le_refl _, fun _ _ _ => rfl⟩
theorem OnlyB.trans {fp fp' : Nat → Prop} {A B C : World} (h : OnlyB fp A B) (k : OnlyB fp' B C) (hf : ∀ i, i < A.heap.size → fp' i → fp i) : OnlyB fp A C :=
  ⟨k.os.trans h.os, k.tape.trans h.tape, k.output.trans h.output, Nat.le_trans h.size k.size,
    fun i hi hn => (k.same i (Nat.lt_of_lt_of_le hi h.size) (fun e => hn (hf i hi e))).trans (h.same i hi hn)⟩
theorem OnlyB.drewN {fp : Nat → Prop} {A B : World} (h : OnlyB fp A B) (n : Nat) : OnlyB fp A (B.drewN n) := ⟨h.os, h.tape, h.output, h.size, h.same⟩
theorem OnlyB.drew {fp : Nat → Prop} {A B : World} (h : OnlyB fp A B) : OnlyB fp A B.drew := ⟨h.os, h.tape, h.output, h.size, h.same⟩
theorem OnlyB.alloc {fp : Nat → Prop} {A B : World} (h : OnlyB fp A B) (o : Obj) : OnlyB fp A (B.alloc o) :=
  ⟨h.os, h.tape, h.output, Nat.le_trans h.size (by simp), fun k hk hn => (Below.heap_alloc B o k (Nat.lt_of_lt_of_le hk h.size)).trans (h.same k hk hn)⟩
theorem OnlyB.setCell {fp : Nat → Prop} {A B : World} (h : OnlyB fp A B) {p : Addr} (hp : p.block < A.heap.size → fp p.block) (v : Value) : OnlyB fp A (B.setCell p v) :=
  ⟨h.os, h.tape, h.output, by simpa [World.setCell] using h.size, fun k hk hn => (Below.heap_setCell B p v k (fun e => hn (by subst e; exact hp hk))).trans (h.same k hk hn)⟩
theorem OnlyB.cell {fp : Nat → Prop} {A B : World} (h : OnlyB fp A B) {b : Nat} (hb : b < A.heap.size) (hn : ¬ fp b) (o : Nat) : B.cell? ⟨b, o, none⟩ = A.cell? ⟨b, o, none⟩ := World.cell?_of_block (w := A) (h.same b hb hn)
theorem OnlyB.frozen {fp : Nat → Prop} {A B : World} (h : OnlyB fp A B) {b : Nat} (hb : b < A.heap.size) (hn : ¬ fp b) (o : Nat) : B.frozen? ⟨b, o, none⟩ = A.frozen? ⟨b, o, none⟩ := World.frozen?_of_block (w := A) (h.same b hb hn)
theorem OnlyB.holds {fp : Nat → Prop} {A B : World} (h : OnlyB fp A B) {blk off : Nat} {d : Array Nat} (hH : Sort.Holds e32 A blk off d) (hb : blk < A.heap.size) (hn : ¬ fp blk) : Sort.Holds e32 B blk off d :=
  fun j hj => ⟨(h.cell hb hn _).trans (hH j hj).1, (h.frozen hb hn _).trans (hH j hj).2⟩
theorem rowW_only (w : World) (blk off n : Nat) (d : Array Nat) : OnlyB (fun k => k = blk) w (rowW w blk off n d) := by
  refine ⟨rfl, rfl, rfl, by simp [rowW], fun k _ hn => ?_⟩
  unfold rowW Sort.putRow Sort.mapBlock
  show (w.heap.modify blk _)[k]? = _
  rw [Array.getElem?_modify, if_neg (fun e => hn e.symm)]

/-- the row holds d now, else nothing old has turned -/
def RowS (w : World) (blk off : Nat) (d : Array Nat) (w' : World) : Prop := Sort.Holds e32 w' blk off d ∧ OnlyB (fun k => k = blk) w w'
theorem rowW_rowS {w : World} {blk off n : Nat} {d dk : Array Nat} (h : Sort.Holds e32 w blk off d) (hs : dk.size = d.size) : RowS w blk off dk (rowW w blk off n dk) := ⟨rowW_holds h hs, rowW_only _ _ _ _ _⟩
theorem RowS.trans {a b c : World} {blk off : Nat} {d d' : Array Nat} (h : RowS a blk off d b) (k : RowS b blk off d' c) : RowS a blk off d' c := ⟨k.1, h.2.trans k.2 (fun _ _ e => e)⟩

/-! ### bits.Len of small numbers -/
theorem aux_two_pow : ∀ (f x : Nat), 0 < x → 2 ^ Lib.bitLenAux f x ≤ 2 * x
  | 0, x, h => by simp [Lib.bitLenAux]; omega
  | f + 1, x, h => by
    rw [Lib.bitLenAux, if_neg (by omega)]
    rcases Nat.eq_zero_or_pos (x / 2) with h0 | h0
    · rw [h0]
      have : Lib.bitLenAux f 0 = 0 := by cases f <;> simp [Lib.bitLenAux]
      rw [this]; omega
    · have ih := aux_two_pow f (x / 2) h0
      rw [Nat.pow_add]; omega
theorem len_two_pow (x : Nat) (h : 0 < x) : 2 ^ Lib.bitLen x ≤ 2 * x := aux_two_pow 64 x h
theorem tab8_size : Lib.len8tab.size = 256 := by decide +kernel
theorem tab8 : ∀ n : Fin 256, (Lib.len8tab.get n.val (by rw [tab8_size]; exact n.isLt)).toNat = Lib.bitLen n.val := by decide +kernel
theorem tab8_of {n : Nat} (h : n < 256) (h' : n < Lib.len8tab.size) : (Lib.len8tab[n]'h').toNat = Lib.bitLen n := tab8 ⟨n, h⟩
set_option maxHeartbeats 4000000 in
set_option maxRecDepth 100000 in
theorem len64_any (n : Nat) (hn : n < 65536) (w : World) : Calls Try.prog 71 #[.int .u64 (n : Nat)] w fun e w' => e = .returned (.int .i64 (Lib.bitLen n : Nat)) ∧ w' = w := by
  have h1 : decide ((4294967296 : Int) ≤ (n : Int)) = false := decide_eq_false (by omega)
  have h2 : decide ((65536 : Int) ≤ (n : Int)) = false := decide_eq_false (by omega)
  by_cases h : n < 256
  · have h3 : decide ((256 : Int) ≤ (n : Int)) = false := decide_eq_false (by omega)
    go_enter Try.func71, Try.ntmps71
    go_wp2
    go_ret
    have h8 := Lib.bitLen_le n 8 (by omega) h
    refine ⟨congrArg Ending.returned (congrArg (Value.int IntKind.i64) ?_), rfl⟩
    rw [tab8_of h]
    simp [wrap64]; omega
  · have h3 : decide ((256 : Int) ≤ (n : Int)) = true := decide_eq_true (by omega)
    have hb0 : (0 : Int) ≤ (n : Int) / 256 := by omega
    have hb1 : (n : Int) / 256 < (Lib.len8tab.size : Int) := by rw [tab8_size]; omega
    go_enter Try.func71, Try.ntmps71
    go_wp2
    go_ret
    have h8 := Lib.bitLen_le (n / 256) 8 (by omega) (by omega)
    have h9 := Lib.bitLen_shift8 n (by omega) (by omega)
    refine ⟨congrArg Ending.returned (congrArg (Value.int IntKind.i64) ?_), rfl⟩
    rw [tab8_of (n := n / 256) (by omega)]
    simp [wrap64]; omega
set_option maxHeartbeats 4000000 in
set_option maxRecDepth 100000 in
theorem len_any (n : Nat) (hn : n < 65536) (w : World) : Calls Try.prog 52 #[.int .u64 (n : Nat)] w fun e w' => e = .returned (.int .i64 (Lib.bitLen n : Nat)) ∧ w' = w := by
  go_enter Try.func52, Try.ntmps52
  go_wp2_with (go_at_call 71; refine (len64_any _ hn _).mono ?_; rintro e w' ⟨rfl, rfl⟩)
  go_ret
  exact ⟨rfl, rfl⟩
set_option maxHeartbeats 4000000 in
set_option maxRecDepth 100000 in
theorem pow2_any (n : Nat) (h0 : 0 < n) (hn : n < 65536) (w : World) : Calls Try.prog 80 #[.int .i64 (n : Nat)] w fun e w' => e = .returned (.int .u64 ((2 ^ Lib.bitLen n : Nat) : Int)) ∧ w' = w := by
  have hl := len_two_pow n h0
  have h8 := Lib.bitLen_le n 16 (by omega) (by omega)
  have hw : IntKind.u64.wrap (n : Int) = (n : Int) := by simp [IntKind.wrap, IntKind.bits, IntKind.signed]; omega
  have HLN := Lib.hid (fun w => len_any n hn w)
  have hp : (2 : Nat) ^ Lib.bitLen n ≤ 131072 := by omega
  obtain ⟨L, hL⟩ : ∃ L, L = Lib.bitLen n := ⟨_, rfl⟩
  rw [← hL] at HLN hl h8 hp ⊢
  have hpw : IntKind.u64.wrap ((2 : Int) ^ L) = ((2 ^ L : Nat) : Int) := by
    rw [IntKind.wrap_u64, show ((2 : Int) ^ L) = ((2 ^ L : Nat) : Int) by push_cast; rfl]
    clear hL
    generalize (2 : Nat) ^ L = P at hp
    omega
  clear hL
  go_enter Try.func80, Try.ntmps80
  go_wp2_with (go_at_call 52; refine (HLN.out _).mono ?_; rintro e w' ⟨rfl, rfl⟩)
  go_ret
  exact ⟨rfl, rfl⟩

/-! ### three numbers ordered: which are handed back -/
def CntI (w : World) (sb s : Nat) (w' : World) : Prop := ∃ s' : Nat, s' ≤ s ∧ w'.cell? ⟨sb, 0, none⟩ = some (.int .i64 (s' : Nat)) ∧ w'.frozen? ⟨sb, 0, none⟩ = false ∧ OnlyB (fun k => k = sb) w w'
def OrdR (a b : Nat) (w : World) (sb s : Nat) (e : Ending) (w' : World) : Prop :=
  ∃ x y : Nat, e = .returned (.tuple #[.int .i64 (x : Nat), .int .i64 (y : Nat)]) ∧ (x = a ∧ y = b ∨ x = b ∧ y = a) ∧ CntI w sb (s + 1) w'
set_option maxHeartbeats 2000000 in
set_option maxRecDepth 100000 in
theorem ord32_any (blk off cap a b sb s : Nat) (d : Array Nat) (w : World) (hH : Sort.Holds e32 w blk off d) (ha : a < d.size) (hb : b < d.size) (hsz : d.size < 65536)
    (hc : w.cell? ⟨sb, 0, none⟩ = some (.int .i64 (s : Nat))) (hf : w.frozen? ⟨sb, 0, none⟩ = false) (hs : s ≤ 1000) :
    Calls Try.prog 88 #[.slice (some ⟨blk, off, none⟩) d.size cap, .int .i64 a, .int .i64 b, .pointer (some ⟨sb, 0, none⟩)] w (OrdR a b w sb s) := by
  obtain ⟨G, hG⟩ : ∃ G : Nat → Nat, ∀ t, G t = d[t]! := ⟨fun t => d[t]!, fun _ => rfl⟩
  have hcw : ∀ t, t < d.size → w.cell? ⟨blk, off + t, none⟩ = some (.int .u32 ((G t : Nat) : Int)) := fun t ht => by rw [hG]; exact (hH t ht).1
  clear hH hG
  go_enter Try.func88, Try.ntmps88
  go_wp2_with fail
  go_quiet ((go_at_call 67; exact Calls.quiet_of_same (less32_any _ _ _)))
  obtain ⟨L, hL⟩ : ∃ L, L = ltN (G b) (G a) := ⟨_, rfl⟩
  rw [← hL]
  clear hL
  cases L
  · go_wp2_with fail
    go_ret2
    exact ⟨a, b, rfl, .inl ⟨rfl, rfl⟩, s, by omega, hc, hf, (OnlyB.refl _ _).drewN _⟩
  · go_wp2_with fail
    go_ret2
    exact ⟨b, a, rfl, .inr ⟨rfl, rfl⟩, s + 1, by omega, by simp [go_sem, hc], by simp [go_sem, hf], ((OnlyB.refl (fun k => k = sb) _).drewN _).setCell (p := ⟨sb, 0, none⟩) (fun _ => rfl) _⟩
theorem ord_P {P : Nat → Prop} {x y a b : Nat} (h : x = a ∧ y = b ∨ x = b ∧ y = a) (ha : P a) (hb : P b) : P x ∧ P y := by
  rcases h with ⟨rfl, rfl⟩ | ⟨rfl, rfl⟩
  · exact ⟨ha, hb⟩
  · exact ⟨hb, ha⟩
def MedR (P : Nat → Prop) (w : World) (sb s : Nat) (e : Ending) (w' : World) : Prop := ∃ x : Nat, e = .returned (.int .i64 (x : Nat)) ∧ P x ∧ CntI w sb (s + 3) w'
set_option maxHeartbeats 2000000 in
set_option maxRecDepth 100000 in
theorem med32_any (P : Nat → Prop) (blk off cap a b c sb s : Nat) (d : Array Nat) (w : World) (hH : Sort.Holds e32 w blk off d) (hblk : blk < w.heap.size) (hne : blk ≠ sb) (hP : ∀ x, P x → x < d.size) (ha : P a) (hb : P b) (hc : P c) (hsz : d.size < 65536)
    (hcs : w.cell? ⟨sb, 0, none⟩ = some (.int .i64 (s : Nat))) (hf : w.frozen? ⟨sb, 0, none⟩ = false) (hs : s ≤ 900) :
    Calls Try.prog 83 #[.slice (some ⟨blk, off, none⟩) d.size cap, .int .i64 a, .int .i64 b, .int .i64 c, .pointer (some ⟨sb, 0, none⟩)] w (MedR P w sb s) := by
  have HO := Lib.hid (fun (x y t : Nat) (W : World) (hx : P x) (hy : P y) (hk : Sort.Holds e32 W blk off d) (h1 : W.cell? ⟨sb, 0, none⟩ = some (.int .i64 (t : Nat))) (h2 : W.frozen? ⟨sb, 0, none⟩ = false) (h3 : t ≤ 1000) =>
    ord32_any blk off cap x y sb t d W hk (hP x hx) (hP y hy) hsz h1 h2 h3)
  have HP := Lib.hid hP
  have HH := Lib.hid hH
  have HA := Lib.hid ha
  have HB := Lib.hid hb
  have HC := Lib.hid hc
  have HS := Lib.hid (And.intro hcs hf)
  clear hP hH ha hb hc hcs hf
  go_enter Try.func83, Try.ntmps83
  go_wp2_with fail
  refine (HO.out a b s _ HA.out HB.out HH.out HS.out.1 HS.out.2 (by omega)).mono ?_
  rintro e w1 ⟨x, y, rfl, hxy, s1, hs1, hc1, hf1, ho1⟩
  obtain ⟨hPx, hPy⟩ := ord_P hxy HA.out HB.out
  have HPx := Lib.hid hPx
  have HPy := Lib.hid hPy
  have HS1 := Lib.hid (And.intro hc1 hf1)
  have HO1 := Lib.hid ho1
  have HH1 := Lib.hid (ho1.holds HH.out hblk hne)
  clear hPx hPy hc1 hf1 ho1 hxy
  go_wp2_with fail
  refine (HO.out y c s1 _ HPy.out HC.out HH1.out HS1.out.1 HS1.out.2 (by omega)).mono ?_
  rintro e w2 ⟨y2, z, rfl, hyz, s2, hs2, hc2, hf2, ho2⟩
  have hPy2 := (ord_P hyz HPy.out HC.out).1
  have HPy2 := Lib.hid hPy2
  have HS2 := Lib.hid (And.intro hc2 hf2)
  have HO2 := Lib.hid (HO1.out.trans ho2 (fun _ _ e => e))
  have HH2 := Lib.hid (ho2.holds HH1.out (Nat.lt_of_lt_of_le hblk HO1.out.size) hne)
  clear hPy2 hc2 hf2 ho2 hyz
  go_wp2_with fail
  refine (HO.out x y2 s2 _ HPx.out HPy2.out HH2.out HS2.out.1 HS2.out.2 (by omega)).mono ?_
  rintro e w3 ⟨x3, y3, rfl, hxy3, s3, hs3, hc3, hf3, ho3⟩
  have hPy3 := (ord_P hxy3 HPx.out HPy2.out).2
  have HPy3 := Lib.hid hPy3
  have HO3 := Lib.hid (HO2.out.trans ho3 (fun _ _ e => e))
  have HS3 := Lib.hid (And.intro hc3 hf3)
  clear hPy3 hc3 hf3 ho3 hxy3
  go_wp2_with fail
  go_ret
  exact ⟨y3, rfl, HPy3.out, s3, by omega, HS3.out.1, HS3.out.2, HO3.out⟩
set_option maxHeartbeats 2000000 in
set_option maxRecDepth 100000 in
theorem medA32_any (P : Nat → Prop) (blk off cap a sb s : Nat) (d : Array Nat) (w : World) (hH : Sort.Holds e32 w blk off d) (hblk : blk < w.heap.size) (hne : blk ≠ sb) (hP : ∀ x, P x → x < d.size) (ha0 : P (a - 1)) (ha : P a) (ha2 : P (a + 1)) (ha1 : 1 ≤ a) (hsz : d.size < 65536)
    (hcs : w.cell? ⟨sb, 0, none⟩ = some (.int .i64 (s : Nat))) (hf : w.frozen? ⟨sb, 0, none⟩ = false) (hs : s ≤ 900) :
    Calls Try.prog 82 #[.slice (some ⟨blk, off, none⟩) d.size cap, .int .i64 a, .pointer (some ⟨sb, 0, none⟩)] w (MedR P w sb s) := by
  have HM := Lib.hid (med32_any P blk off cap (a - 1) a (a + 1) sb s d w hH hblk hne hP ha0 ha ha2 hsz hcs hf hs)
  have hlt := hP _ ha2
  clear hH hP ha0 ha ha2 hcs hf
  go_enter Try.func82, Try.ntmps82
  go_wp2_with fail
  rw [show ((a : Int) - 1) = ((a - 1 : Nat) : Int) by omega, show ((a : Int) + 1) = ((a + 1 : Nat) : Int) by omega]
  refine HM.out.mono ?_
  rintro e w1 ⟨x, rfl, hx, hc⟩
  have HX := Lib.hid (And.intro hx hc)
  clear hx hc
  go_wp2_with fail
  go_ret
  exact ⟨x, rfl, HX.out.1, HX.out.2⟩

/-! ### the pivot -/
def PivR (a b : Nat) (w : World) (e : Ending) (w' : World) : Prop :=
  ∃ (p : Nat) (h : Nat), e = .returned (.tuple #[.int .i64 (p : Nat), .int .i64 (h : Nat)]) ∧ a ≤ p ∧ p < b ∧ (h = 0 ∨ h = 1 ∨ h = 2) ∧ OnlyB (fun _ => False) w w'
theorem OnlyB.under {A B C : World} (h : OnlyB (fun _ => False) A B) (k : OnlyB (fun k => k = A.heap.size) B C) : OnlyB (fun _ => False) A C := h.trans k (fun i hi e => by omega)
set_option maxHeartbeats 2000000 in
set_option maxRecDepth 100000 in
theorem piv32_any (blk off cap a b : Nat) (d : Array Nat) (w : World) (hH : Sort.Holds e32 w blk off d) (hblk : blk < w.heap.size) (hab : a < b) (hb : b ≤ d.size) (hsz : d.size < 65536) :
    Calls Try.prog 64 #[.slice (some ⟨blk, off, none⟩) d.size cap, .int .i64 a, .int .i64 b] w (PivR a b w) := by
  have hne : blk ≠ w.heap.size := by omega
  have ho0 : OnlyB (fun _ => False) w (w.alloc (.cells #[.int .i64 0] 3)) := (OnlyB.refl _ _).alloc _
  have hH0 := ho0.holds hH hblk (by simp)
  have HO0 := Lib.hid ho0
  have HH0 := Lib.hid hH0
  have HM := Lib.hid (fun (x y z t : Nat) (W : World) (hx : a ≤ x ∧ x < b) (hy : a ≤ y ∧ y < b) (hz : a ≤ z ∧ z < b) (hk : Sort.Holds e32 W blk off d) (h0 : blk < W.heap.size) (h1 : W.cell? ⟨w.heap.size, 0, none⟩ = some (.int .i64 (t : Nat))) (h2 : W.frozen? ⟨w.heap.size, 0, none⟩ = false) (h3 : t ≤ 900) =>
    med32_any (fun x => a ≤ x ∧ x < b) blk off cap x y z w.heap.size t d W hk h0 hne (fun x hx => by omega) hx hy hz hsz h1 h2 h3)
  have HMA := Lib.hid (fun (x t : Nat) (W : World) (hx0 : a ≤ x - 1) (hx : x + 1 < b) (hx1 : 1 ≤ x) (hk : Sort.Holds e32 W blk off d) (h0 : blk < W.heap.size) (h1 : W.cell? ⟨w.heap.size, 0, none⟩ = some (.int .i64 (t : Nat))) (h2 : W.frozen? ⟨w.heap.size, 0, none⟩ = false) (h3 : t ≤ 900) =>
    medA32_any (fun x => a ≤ x ∧ x < b) blk off cap x w.heap.size t d W hk h0 hne (fun x hx => by omega) ⟨hx0, by omega⟩ ⟨by omega, by omega⟩ ⟨by omega, hx⟩ hx1 hsz h1 h2 h3)
  clear ho0 hH0 hH
  obtain ⟨I, hI⟩ : ∃ I : Nat, I = a + (b - a) / 4 * 1 := ⟨_, rfl⟩
  obtain ⟨J, hJ⟩ : ∃ J : Nat, J = a + (b - a) / 4 * 2 := ⟨_, rfl⟩
  obtain ⟨K, hK⟩ : ∃ K : Nat, K = a + (b - a) / 4 * 3 := ⟨_, rfl⟩
  have eI : ((a : Int) + ((b : Int) - (a : Int)) / 4) = (I : Int) := by omega
  have eJ : ((a : Int) + ((b : Int) - (a : Int)) / 4 * 2) = (J : Int) := by omega
  have eK : ((a : Int) + ((b : Int) - (a : Int)) / 4 * 3) = (K : Int) := by omega
  by_cases h8 : 8 ≤ b - a
  · have h8z : decide ((8 : Int) ≤ (b : Int) - (a : Int)) = true := decide_eq_true (by omega)
    by_cases h50 : 50 ≤ b - a
    · have h50z : decide ((50 : Int) ≤ (b : Int) - (a : Int)) = true := decide_eq_true (by omega)
      have b1 : a ≤ I - 1 ∧ I + 1 < b ∧ 1 ≤ I := by omega
      have b2 : a ≤ J - 1 ∧ J + 1 < b ∧ 1 ≤ J := by omega
      have b3 : a ≤ K - 1 ∧ K + 1 < b ∧ 1 ≤ K := by omega
      clear hI hJ hK
      go_enter Try.func64, Try.ntmps64
      have hz0 : blk < (w.alloc (.cells #[.int .i64 0] 3)).heap.size := by simp; omega
      go_wp2_with fail
      refine (HMA.out I 0 _ b1.1 b1.2.1 b1.2.2 HH0.out hz0 (by simp) (by simp) (by omega)).mono ?_
      rintro e w1 ⟨i1, rfl, hi1, s1, hs1, hc1, hf1, ho1⟩
      have HS1 := Lib.hid (And.intro hc1 hf1)
      have HO1 := Lib.hid (HO0.out.under ho1)
      have HH1 := Lib.hid (ho1.holds HH0.out hz0 hne)
      clear hc1 hf1 ho1
      go_wp2_with fail
      refine (HMA.out J s1 _ b2.1 b2.2.1 b2.2.2 HH1.out (Nat.lt_of_lt_of_le hblk HO1.out.size) HS1.out.1 HS1.out.2 (by omega)).mono ?_
      rintro e w2 ⟨i2, rfl, hi2, s2, hs2, hc2, hf2, ho2⟩
      have HS2 := Lib.hid (And.intro hc2 hf2)
      have HO2 := Lib.hid (HO1.out.under ho2)
      have HH2 := Lib.hid (ho2.holds HH1.out (Nat.lt_of_lt_of_le hblk HO1.out.size) hne)
      clear hc2 hf2 ho2
      go_wp2_with fail
      refine (HMA.out K s2 _ b3.1 b3.2.1 b3.2.2 HH2.out (Nat.lt_of_lt_of_le hblk HO2.out.size) HS2.out.1 HS2.out.2 (by omega)).mono ?_
      rintro e w3 ⟨i3, rfl, hi3, s3, hs3, hc3, hf3, ho3⟩
      have HS3 := Lib.hid (And.intro hc3 hf3)
      have HO3 := Lib.hid (HO2.out.under ho3)
      have HH3 := Lib.hid (ho3.holds HH2.out (Nat.lt_of_lt_of_le hblk HO2.out.size) hne)
      clear hc3 hf3 ho3
      go_wp2_with fail
      refine (HM.out i1 i2 i3 s3 _ hi1 hi2 hi3 HH3.out (Nat.lt_of_lt_of_le hblk HO3.out.size) HS3.out.1 HS3.out.2 (by omega)).mono ?_
      rintro e w4 ⟨i4, rfl, hi4, s4, hs4, hc4, hf4, ho4⟩
      have HS4 := Lib.hid (And.intro hc4 hf4)
      have HO4 := Lib.hid (HO3.out.under ho4)
      have HH4 := Lib.hid (ho4.holds HH3.out (Nat.lt_of_lt_of_le hblk HO3.out.size) hne)
      clear hc4 hf4 ho4
      have hcl := HS4.out.1
      go_wp2_with fail
      all_goals
        go_ret2
        first
          | exact ⟨i4, 1, rfl, hi4.1, hi4.2, by simp, HO4.out⟩
          | exact ⟨i4, 2, rfl, hi4.1, hi4.2, by simp, HO4.out⟩
          | exact ⟨i4, 0, rfl, hi4.1, hi4.2, by simp, HO4.out⟩
    · have h50z : decide ((50 : Int) ≤ (b : Int) - (a : Int)) = false := decide_eq_false (by omega)
      have b1 : a ≤ I ∧ I < b := by omega
      have b2 : a ≤ J ∧ J < b := by omega
      have b3 : a ≤ K ∧ K < b := by omega
      clear hI hJ hK
      go_enter Try.func64, Try.ntmps64
      have hz0 : blk < (w.alloc (.cells #[.int .i64 0] 3)).heap.size := by simp; omega
      go_wp2_with fail
      refine (HM.out I J K 0 _ b1 b2 b3 HH0.out hz0 (by simp) (by simp) (by omega)).mono ?_
      rintro e w1 ⟨i1, rfl, hi1, s1, hs1, hc1, hf1, ho1⟩
      have HS1 := Lib.hid (And.intro hc1 hf1)
      have HO1 := Lib.hid (HO0.out.under ho1)
      have HH1 := Lib.hid (ho1.holds HH0.out hz0 hne)
      clear hc1 hf1 ho1
      have hcl := HS1.out.1
      go_wp2_with fail
      all_goals
        go_ret2
        first
          | exact ⟨i1, 1, rfl, hi1.1, hi1.2, by simp, HO1.out⟩
          | exact ⟨i1, 2, rfl, hi1.1, hi1.2, by simp, HO1.out⟩
          | exact ⟨i1, 0, rfl, hi1.1, hi1.2, by simp, HO1.out⟩
  · have h8z : decide ((8 : Int) ≤ (b : Int) - (a : Int)) = false := decide_eq_false (by omega)
    have bJ : a ≤ J ∧ J < b := by omega
    clear hI hJ hK
    go_enter Try.func64, Try.ntmps64
    go_wp2_with fail
    go_ret2
    exact ⟨J, 1, rfl, bJ.1, bJ.2, by simp, HO0.out⟩

/-! ### the patterns -/
def XorR (w : World) (rb : Nat) (e : Ending) (w' : World) : Prop :=
  ∃ v : Nat, v < 18446744073709551616 ∧ e = .returned (.int .u64 (v : Nat)) ∧ w'.cell? ⟨rb, 0, none⟩ = some (.int .u64 (v : Nat)) ∧ w'.frozen? ⟨rb, 0, none⟩ = false ∧ OnlyB (fun k => k = rb) w w'
set_option maxHeartbeats 2000000 in
set_option maxRecDepth 100000 in
theorem xor_any (rb X : Nat) (hX : X < 18446744073709551616) (w : World) (hc : w.cell? ⟨rb, 0, none⟩ = some (.int .u64 (X : Nat))) (hf : w.frozen? ⟨rb, 0, none⟩ = false) :
    Calls Try.prog 81 #[.pointer (some ⟨rb, 0, none⟩)] w (XorR w rb) := by
  obtain ⟨B1, hB1⟩ : ∃ B : Nat, B = X ^^^ (X * 8192 % 18446744073709551616) := ⟨_, rfl⟩
  obtain ⟨B2, hB2⟩ : ∃ B : Nat, B = B1 ^^^ (B1 / 128) := ⟨_, rfl⟩
  obtain ⟨B3, hB3⟩ : ∃ B : Nat, B = B2 ^^^ (B2 * 131072 % 18446744073709551616) := ⟨_, rfl⟩
  have l1 : B1 < 18446744073709551616 := by rw [hB1]; exact Nat.xor_lt_two_pow (n := 64) (by omega) (by omega)
  have l2 : B2 < 18446744073709551616 := by rw [hB2]; exact Nat.xor_lt_two_pow (n := 64) (by omega) (by omega)
  have l3 : B3 < 18446744073709551616 := by rw [hB3]; exact Nat.xor_lt_two_pow (n := 64) (by omega) (by omega)
  have e1 : bits .xor .u64 (X : Int) (IntKind.u64.wrap ((X : Int) * 8192)) = (B1 : Int) := by
    rw [IntKind.wrap_u64, show ((X : Int) * 8192 % 18446744073709551616) = ((X * 8192 % 18446744073709551616 : Nat) : Int) by omega, bits_xor_u64_nat _ _ hX (by omega), hB1]
  have e2 : bits .xor .u64 (B1 : Int) ((B1 : Int) / 128) = (B2 : Int) := by
    rw [show ((B1 : Int) / 128) = ((B1 / 128 : Nat) : Int) by omega, bits_xor_u64_nat _ _ l1 (by omega), hB2]
  have e3 : bits .xor .u64 (B2 : Int) (IntKind.u64.wrap ((B2 : Int) * 131072)) = (B3 : Int) := by
    rw [IntKind.wrap_u64, show ((B2 : Int) * 131072 % 18446744073709551616) = ((B2 * 131072 % 18446744073709551616 : Nat) : Int) by omega, bits_xor_u64_nat _ _ l2 (by omega), hB3]
  clear hB1 hB2 hB3
  have hss : ∀ v v', (w.setCell ⟨rb, 0, none⟩ v).setCell ⟨rb, 0, none⟩ v' = w.setCell ⟨rb, 0, none⟩ v' := fun v v' => by
    rw [Sort.setCell_eq, Sort.setCell_eq, Sort.mapBlock_mapBlock, Sort.setCell_eq]
    congr 1
    funext c
    simp
  go_enter Try.func81, Try.ntmps81
  go_wp2
  go_region
  all_goals go_wp2
  all_goals go_region
  all_goals go_wp2
  all_goals go_region
  all_goals go_wp2
  go_ret
  exact ⟨B3, l3, rfl, by simp [go_sem, hc], by simp [go_sem, hf], ((OnlyB.refl (fun k => k = rb) _).setCell (p := ⟨rb, 0, none⟩) (fun _ => rfl) _).drewN 3⟩
theorem swap_rowS {w : World} {blk off : Nat} {d : Array Nat} (hH : Sort.Holds e32 w blk off d) {i j : Nat} (hi : i < d.size) (hj : j < d.size) :
    RowS w blk off (Sort.swp d i j) ((w.setCell ⟨blk, off + i, none⟩ (.int .u32 ((d[j]! : Nat) : Int))).setCell ⟨blk, off + j, none⟩ (.int .u32 ((d[i]! : Nat) : Int))).drew := by
  have h := rowW_swap (rowW_start hH) 1 hi hj
  rw [show ((w.setCell ⟨blk, off + i, none⟩ (.int .u32 ((d[j]! : Nat) : Int))).setCell ⟨blk, off + j, none⟩ (.int .u32 ((d[i]! : Nat) : Int))).drew = ((w.drewN 1).setCell ⟨blk, off + i, none⟩ (.int .u32 ((d[j]! : Nat) : Int))).setCell ⟨blk, off + j, none⟩ (.int .u32 ((d[i]! : Nat) : Int)) from rfl, h]
  exact rowW_rowS hH (swp_size _ _ _)
def BrkR (a b : Nat) (d : Array Nat) (w : World) (blk off : Nat) (e : Ending) (w' : World) : Prop := e = .returned (.tuple #[]) ∧ ∃ d', Sort.PermIn a b d d' ∧ RowS w blk off d' w'
def brkI (a b L : Nat) (d : Array Nat) (w : World) (blk off : Nat) (v : Value) (wr : World) : Prop :=
  ∃ (t : Nat) (dk : Array Nat) (x : Nat), t ≤ 3 ∧ v = .int .i64 ((a + L / 4 * 2 - 1 + t : Nat) : Int) ∧ Sort.PermIn a b d dk ∧ RowS w blk off dk wr ∧ x < 18446744073709551616 ∧ wr.cell? ⟨w.heap.size, 0, none⟩ = some (.int .u64 (x : Nat)) ∧ wr.frozen? ⟨w.heap.size, 0, none⟩ = false ∧ w.heap.size < wr.heap.size
set_option maxHeartbeats 3200000 in
set_option maxRecDepth 100000 in
theorem brk32_any (blk off cap a b : Nat) (d : Array Nat) (w : World) (hH : Sort.Holds e32 w blk off d) (hblk : blk < w.heap.size) (hab : a ≤ b) (hb : b ≤ d.size) (hsz : d.size < 65536) :
    Calls Try.prog 63 #[.slice (some ⟨blk, off, none⟩) d.size cap, .int .i64 a, .int .i64 b] w (BrkR a b d w blk off) := by
  have HH := Lib.hid hH
  clear hH
  obtain ⟨L, hL⟩ : ∃ L, b = a + L := ⟨b - a, by omega⟩
  have eL : (b : Int) - (a : Int) = (L : Int) := by omega
  have hL1 : b ≤ a + L := by omega
  have hL2 : a + L ≤ b := by omega
  clear hL
  by_cases h8 : 8 ≤ L
  · have h8z : decide (8 ≤ L) = true := decide_eq_true h8
    have h8y : decide ((8 : Int) ≤ (L : Int)) = true := decide_eq_true (by omega)
    have hwL : IntKind.u64.wrap (L : Int) = (L : Int) := by simp [IntKind.wrap, IntKind.bits, IntKind.signed]; omega
    have HN := Lib.hid (fun w => pow2_any L (by omega) (by omega) w)
    obtain ⟨M, hM⟩ : ∃ M, M = 2 ^ Lib.bitLen L := ⟨_, rfl⟩
    have hM2 : M ≤ 2 * L := by rw [hM]; exact len_two_pow L (by omega)
    have hM1 : 1 ≤ M := by rw [hM]; exact Nat.two_pow_pos _
    rw [← hM] at HN
    clear hM
    have hs0 : RowS w blk off d (w.alloc (.cells #[.int .u64 (L : Nat)] 134)) := ⟨((OnlyB.refl (fun k => k = w.heap.size) w).alloc _).holds HH.out hblk (by omega), (OnlyB.refl _ _).alloc _⟩
    have HS0 := Lib.hid hs0
    clear hs0
    go_enter Try.func63, Try.ntmps63
    go_wp2_with fail
    refine (HN.out _).mono ?_
    rintro e w' ⟨rfl, rfl⟩
    go_wp2_with fail
    go_loopw [9] (fun v wr => brkI a b L d w blk off v wr) (fun v _ => a + L / 4 * 2 + 2 - (intOf v).toNat)
    case atStart => exact ⟨0, d, L, by omega, by congr 1; omega, Sort.permIn_refl _ _ _, HS0.out, by omega, by simp, by simp, by simp⟩
    case round =>
      obtain ⟨t, dk, x, ht, rfl, hp, hrs, hx, hcx, hfx, hwz⟩ := hrel
      have hdk : dk.size = d.size := hp.1
      have HP := Lib.hid hp
      obtain ⟨D, hD⟩ : ∃ D, D = a + L / 4 * 2 - 1 + t := ⟨_, rfl⟩
      rw [← hD]
      have hD1 : D ≤ a + L / 4 * 2 - 1 + t := by omega
      have hD2 : a + L / 4 * 2 - 1 + t ≤ D := by omega
      clear hD
      have HRS := Lib.hid hrs
      have HNX := Lib.hid (xor_any w.heap.size x hx wr hcx hfx)
      clear hp hrs hcx hfx
      by_cases ht3 : t < 3
      · have hDz : decide ((D : Int) ≤ (a : Int) + (L : Int) / 4 * 2 + 1) = true := decide_eq_true (by omega)
        go_wp2_with fail
        refine HNX.out.mono ?_
        rintro e w1 ⟨x1, hx1, rfl, hc1, hf1, ho1⟩
        have HX1 := Lib.hid (And.intro hc1 hf1)
        have hwz1 : w.heap.size < w1.heap.size := Nat.lt_of_lt_of_le hwz ho1.size
        have HH1 := Lib.hid (ho1.holds HRS.out.1 (by omega) (by omega))
        have HR1 := Lib.hid (show RowS w blk off dk w1 from ⟨HH1.out, HRS.out.2.trans ho1 (fun i hi e => by omega)⟩)
        obtain ⟨O, hO⟩ : ∃ O : Nat, O = x1 &&& (M - 1) := ⟨_, rfl⟩
        have lO : O ≤ M - 1 := by rw [hO]; exact Nat.and_le_right
        have eAnd : bits .and .u64 (x1 : Int) ((M : Int) - 1) = (O : Int) := by
          rw [show ((M : Int) - 1) = ((M - 1 : Nat) : Int) by omega, bits_and_u64_nat _ _ hx1 (by omega), hO]
        clear hc1 hf1 ho1 hO HNX HRS
        by_cases hLO : L ≤ O
        · have hLz : decide (L ≤ O) = true := decide_eq_true hLO
          obtain ⟨P, hP⟩ : ∃ P : Nat, P = O - L := ⟨_, rfl⟩
          have eP : (O : Int) - (L : Int) = (P : Int) := by omega
          have hP1 : P + L ≤ O := by omega
          have hP2 : O ≤ P + L := by omega
          clear hP
          obtain ⟨G, hG⟩ : ∃ G : Nat → Nat, ∀ t, G t = dk[t]! := ⟨fun t => dk[t]!, fun _ => rfl⟩
          have hcw : ∀ t, t < d.size → w1.cell? ⟨blk, off + t, none⟩ = some (.int .u32 ((G t : Nat) : Int)) := fun t ht => by rw [hG]; exact (HH1.out t (by omega)).1
          have hfw : ∀ t, t < d.size → w1.frozen? ⟨blk, off + t, none⟩ = false := fun t ht => (HH1.out t (by omega)).2
          have cq : w1.cell? ⟨blk, off + (a + P), none⟩ = some (.int .u32 ((G (a + P) : Nat) : Int)) := hcw _ (by omega)
          obtain ⟨v3, hy3⟩ := cell?_setCell_some (w := w1) (p := ⟨blk, off + D, none⟩) (x := .int .u32 ((G (a + P) : Nat) : Int)) (q := ⟨blk, off + (a + P), none⟩) cq
          have HG := Lib.hid hG
          clear hG
          go_wp2_with fail
          go_region
          all_goals go_wp2_with fail
          repeat rw [HG.out]
          have hrs := swap_rowS HH1.out (i := D) (j := a + P) (by omega) (by omega)
          clear hcw hfw cq hy3
          generalize ((w1.setCell ⟨blk, off + D, none⟩ (.int .u32 ((dk[a + P]! : Nat) : Int))).setCell ⟨blk, off + (a + P), none⟩ (.int .u32 ((dk[D]! : Nat) : Int))).drew = w2 at hrs ⊢
          go_roundw
          case rel => exact ⟨t + 1, Sort.swp dk D (a + P), x1, by omega, by congr 1; omega, Sort.permIn_trans _ _ _ _ _ HP.out (Sort.swp_permIn _ _ _ _ _ (by omega) (by omega) (by omega) (by omega) (by omega)), HR1.out.trans hrs, hx1, (hrs.2.cell (by omega) (by omega) _).trans HX1.out.1, (hrs.2.frozen (by omega) (by omega) _).trans HX1.out.2, Nat.lt_of_lt_of_le hwz1 hrs.2.size⟩
          case measure => simp [intOf]; omega
        · have hLz : decide (L ≤ O) = false := decide_eq_false hLO
          obtain ⟨G, hG⟩ : ∃ G : Nat → Nat, ∀ t, G t = dk[t]! := ⟨fun t => dk[t]!, fun _ => rfl⟩
          have hcw : ∀ t, t < d.size → w1.cell? ⟨blk, off + t, none⟩ = some (.int .u32 ((G t : Nat) : Int)) := fun t ht => by rw [hG]; exact (HH1.out t (by omega)).1
          have hfw : ∀ t, t < d.size → w1.frozen? ⟨blk, off + t, none⟩ = false := fun t ht => (HH1.out t (by omega)).2
          have cq : w1.cell? ⟨blk, off + (a + O), none⟩ = some (.int .u32 ((G (a + O) : Nat) : Int)) := hcw _ (by omega)
          obtain ⟨v3, hy3⟩ := cell?_setCell_some (w := w1) (p := ⟨blk, off + D, none⟩) (x := .int .u32 ((G (a + O) : Nat) : Int)) (q := ⟨blk, off + (a + O), none⟩) cq
          have HG := Lib.hid hG
          clear hG
          go_wp2_with fail
          go_region
          all_goals go_wp2_with fail
          repeat rw [HG.out]
          have hrs := swap_rowS HH1.out (i := D) (j := a + O) (by omega) (by omega)
          clear hcw hfw cq hy3
          generalize ((w1.setCell ⟨blk, off + D, none⟩ (.int .u32 ((dk[a + O]! : Nat) : Int))).setCell ⟨blk, off + (a + O), none⟩ (.int .u32 ((dk[D]! : Nat) : Int))).drew = w2 at hrs ⊢
          go_roundw
          case rel => exact ⟨t + 1, Sort.swp dk D (a + O), x1, by omega, by congr 1; omega, Sort.permIn_trans _ _ _ _ _ HP.out (Sort.swp_permIn _ _ _ _ _ (by omega) (by omega) (by omega) (by omega) (by omega)), HR1.out.trans hrs, hx1, (hrs.2.cell (by omega) (by omega) _).trans HX1.out.1, (hrs.2.frozen (by omega) (by omega) _).trans HX1.out.2, Nat.lt_of_lt_of_le hwz1 hrs.2.size⟩
          case measure => simp [intOf]; omega
      · have hDz : decide ((D : Int) ≤ (a : Int) + (L : Int) / 4 * 2 + 1) = false := decide_eq_false (by omega)
        go_wp2_with fail
        go_end0
        exact ⟨rfl, dk, HP.out, HRS.out⟩
  · have h8z : decide (8 ≤ L) = false := decide_eq_false h8
    have h8y : decide ((8 : Int) ≤ (L : Int)) = false := decide_eq_false (by omega)
    go_enter Try.func63, Try.ntmps63
    go_wp2_with fail
    go_end0
    exact ⟨rfl, d, Sort.permIn_refl _ _ _, HH.out, OnlyB.refl _ _⟩
end Go.Proofs.Ytmflopeedofkhaa

namespace Go.Proofs.Ytmflopeedofkhaa
set_option linter.unusedSimpArgs false
set_option linter.unusedVariables false
set_option maxRecDepth 100000
open Go.RowKit

def Srt (a b : Nat) (d : Array Nat) : Prop := ∀ i j, a ≤ i → i < j → j < b → d[i]! ≤ d[j]!
def LowB (a b : Nat) (d : Array Nat) : Prop := a = 0 ∨ ∀ i, a ≤ i → i < b → d[a - 1]! ≤ d[i]!
theorem srt_of {a b : Nat} {d : Array Nat} (h : Sort.SortedIn ltN a b d) : Srt a b d := fun i j h1 h2 h3 => by
  have := h i j h1 h2 h3
  simp only [ltN, decide_eq_false_iff_not] at this
  omega
theorem low_of {a b : Nat} {d : Array Nat} (h : LowB a b d) : Sort.Below ltN a b d := by
  rcases h with h | h
  · exact .inl h
  · exact .inr (fun i h1 h2 => by have := h i h1 h2; simp only [ltN, decide_eq_false_iff_not]; omega)
theorem perm_all {a b : Nat} {d d' : Array Nat} (h : Sort.PermIn a b d d') (hb : b ≤ d.size) {p : Nat → Prop} (hp : ∀ i, a ≤ i → i < b → p d[i]!) : ∀ i, a ≤ i → i < b → p d'[i]! := Sort.permIn_all d d' a b p hb h hp
theorem low_perm {a b : Nat} {d d' : Array Nat} (h : LowB a b d) (hp : Sort.PermIn a b d d') (hb : b ≤ d.size) : LowB a b d' := by
  rcases h with h | h
  · exact .inl h
  · rcases Nat.eq_zero_or_pos a with h0 | h0
    · exact .inl h0
    · right
      rw [hp.2.1 (a - 1) (.inl (by omega))]
      exact perm_all hp hb h

structure PdqInv (a b : Nat) (d : Array Nat) (a' b' : Nat) (dk : Array Nat) : Prop where
  lo : a ≤ a'
  mid : a' ≤ b'
  hi : b' ≤ b
  size : dk.size = d.size
  low : LowB a' b' dk
  fin : ∀ d', Sort.PermIn a' b' dk d' → Srt a' b' d' → Sort.PermIn a b d d' ∧ Srt a b d'

section
variable {a b a' b' : Nat} {d dk dk' : Array Nat}
theorem PdqInv.start (hab : a ≤ b) (hl : LowB a b d) : PdqInv a b d a b d := ⟨Nat.le_refl _, hab, Nat.le_refl _, rfl, hl, fun d' h1 h2 => ⟨h1, h2⟩⟩
theorem PdqInv.perm (h : PdqInv a b d a' b' dk) (hb : b ≤ d.size) (hp : Sort.PermIn a' b' dk dk') : PdqInv a b d a' b' dk' :=
  ⟨h.lo, h.mid, h.hi, hp.1.trans h.size, low_perm h.low hp (by rw [h.size]; exact Nat.le_trans h.hi hb), fun d' h1 h2 => h.fin d' (Sort.permIn_trans _ _ _ _ _ hp h1) h2⟩
theorem PdqInv.done (h : PdqInv a b d a' b' dk) (hp : Sort.PermIn a' b' dk dk') (hs : Sort.SortedIn ltN a' b' dk') : Sort.PermIn a b d dk' ∧ Srt a b dk' := h.fin _ hp (srt_of hs)
/-- the part that is equal to the pivot is in its place -/
theorem PdqInv.eq (h : PdqInv a b d a' b' dk) (hb : b ≤ d.size) {p : Nat} (hp1 : a' ≤ p) (hp2 : p < b') (h0 : 0 < a') (hle : ltN dk[a' - 1]! dk[p]! = false) {m : Nat} {d4 : Array Nat} (hx : Sort.partitionEqual ltN dk a' b' p = (m, d4)) :
    a' < m ∧ PdqInv a b d m b' d4 := by
  have hbk : b' ≤ dk.size := by rw [h.size]; exact Nat.le_trans h.hi hb
  have hl : ∀ i, a' ≤ i → i < b' → dk[p]! ≤ dk[i]! := by
    rcases h.low with h1 | h1
    · omega
    · intro i hi1 hi2
      have := h1 i hi1 hi2
      simp only [ltN, decide_eq_false_iff_not] at hle
      omega
  have hq := Sort.partitionEqual_holds ltN ltN_swo dk a' b' p hp1 hp2 hbk (fun i h1 h2 => by have := hl i h1 h2; simp only [ltN, decide_eq_false_iff_not]; omega)
  rw [hx] at hq
  obtain ⟨q1, q2, q3, q4, q5⟩ := hq
  simp only [ltN, decide_eq_false_iff_not, decide_eq_true_eq] at q1 q2 q3 q4 q5
  have hl4 : ∀ i, a' ≤ i → i < b' → dk[p]! ≤ d4[i]! := perm_all q3 hbk hl
  refine ⟨q1, ⟨by have := h.lo; omega, q2, h.hi, q3.1.trans h.size, .inr (fun i h1 h2 => ?_), fun d' hp hs => ?_⟩⟩
  · have := q4 (m - 1) (by omega) (by omega)
    have := q5 i h1 h2
    omega
  · have hp' : Sort.PermIn a' b' d4 d' := Sort.permIn_mono _ _ _ _ _ _ (by omega) (Nat.le_refl _) (by rw [q3.1]; exact hbk) hp
    have h5 : ∀ i, m ≤ i → i < b' → dk[p]! < d'[i]! := perm_all hp (by rw [q3.1]; exact hbk) q5
    refine h.fin d' (Sort.permIn_trans _ _ _ _ _ q3 hp') (fun i j h1 h2 h3 => ?_)
    rcases Nat.lt_or_ge i m with hi | hi
    · rw [hp.2.1 i (.inl hi)]
      have e1 := q4 i h1 hi
      rcases Nat.lt_or_ge j m with hj | hj
      · rw [hp.2.1 j (.inl hj)]
        have e2 := hl4 j (by omega) (by omega)
        omega
      · have := h5 j hj h3
        omega
    · exact hs i j hi h2 h3
theorem srt_join {a m b : Nat} {d : Array Nat} (h1 : Srt a m d) (h2 : Srt (m + 1) b d) (h3 : ∀ i, a ≤ i → i < m → d[i]! ≤ d[m]!) (h4 : ∀ i, m < i → i < b → d[m]! ≤ d[i]!) : Srt a b d := by
  intro i j hi hij hj
  rcases Nat.lt_trichotomy i m with hm | hm | hm
  · rcases Nat.lt_trichotomy j m with hn | hn | hn
    · exact h1 i j hi hij hn
    · subst hn; exact h3 i hi hm
    · exact Nat.le_trans (h3 i hi hm) (h4 j hn hj)
  · subst hm; exact h4 j hij hj
  · exact h2 i j hm hij hj
/-- partitioned; the left part is sorted: on with the right one -/
theorem PdqInv.left (h : PdqInv a b d a' b' dk) (hb : b ≤ d.size) {p : Nat} (hp1 : a' ≤ p) (hp2 : p < b') {m : Nat} {ap : Bool} {d4 : Array Nat} (hx : Sort.partition ltN dk a' b' p = (m, ap, d4)) :
    a' ≤ m ∧ m < b' ∧ d4.size = d.size ∧ LowB a' m d4 ∧ LowB (m + 1) b' d4 ∧
    (∀ d5, Sort.PermIn a' m d4 d5 → Srt a' m d5 → PdqInv a b d (m + 1) b' d5) ∧ (∀ d5, Sort.PermIn (m + 1) b' d4 d5 → Srt (m + 1) b' d5 → PdqInv a b d a' m d5) := by
  have hbk : b' ≤ dk.size := by rw [h.size]; exact Nat.le_trans h.hi hb
  have hq := Sort.partition_holds ltN ltN_swo dk a' b' p hp1 hp2 hbk
  rw [hx] at hq
  obtain ⟨q1, q2, q3, q4, q5⟩ := hq
  simp only [ltN, decide_eq_false_iff_not, decide_eq_true_eq] at q1 q2 q3 q4 q5
  have hs4 : d4.size = d.size := q3.1.trans h.size
  have hb4 : b' ≤ d4.size := by rw [q3.1]; exact hbk
  have hlo4 := low_perm h.low q3 hbk
  have hloL : LowB a' m d4 := by
    rcases hlo4 with h1 | h1
    · exact .inl h1
    · exact .inr (fun i h2 h3 => h1 i h2 (by omega))
  have hloR : LowB (m + 1) b' d4 := .inr (fun i h1 h2 => by have := q5 i (by omega) h2; simp only [Nat.add_sub_cancel]; omega)
  refine ⟨q1, q2, hs4, hloL, hloR, fun d5 hp hs => ?_, fun d5 hp hs => ?_⟩
  · have e5 : ∀ i, m ≤ i → d5[i]! = d4[i]! := fun i hi => hp.2.1 i (.inr hi)
    have l5 : ∀ i, a' ≤ i → i < m → d5[i]! ≤ d5[m]! := fun i h1 h2 => by
      have := perm_all hp (by omega) (p := fun x => x < d4[m]!) (fun i h1 h2 => q4 i h1 h2) i h1 h2
      rw [e5 m (Nat.le_refl _)]; omega
    refine ⟨by have := h.lo; omega, by omega, h.hi, hp.1.trans hs4, .inr (fun i h1 h2 => ?_), fun d' hp2 hs2 => ?_⟩
    · simp only [Nat.add_sub_cancel]
      rw [e5 i (by omega), e5 m (Nat.le_refl _)]
      have := q5 i (by omega) h2; omega
    · have hP : Sort.PermIn a' b' d4 d' := Sort.permIn_trans _ _ _ _ _ (Sort.permIn_mono _ _ _ _ _ _ (Nat.le_refl _) (by omega) hb4 hp) (Sort.permIn_mono _ _ _ _ _ _ (by omega) (Nat.le_refl _) (by rw [hp.1]; exact hb4) hp2)
      have e6 : ∀ i, i < m + 1 → d'[i]! = d5[i]! := fun i hi => hp2.2.1 i (.inl hi)
      refine h.fin d' (Sort.permIn_trans _ _ _ _ _ q3 hP) (srt_join (m := m) (fun i j h1 h2 h3 => ?_) hs2 (fun i h1 h2 => ?_) (fun i h1 h2 => ?_))
      · rw [e6 i (by omega), e6 j (by omega)]; exact hs i j h1 h2 h3
      · rw [e6 i (by omega), e6 m (by omega)]; exact l5 i h1 h2
      · rw [e6 m (by omega)]
        exact perm_all hp2 (by rw [hp.1]; exact hb4) (p := fun x => d5[m]! ≤ x) (fun i h1 h2 => by rw [e5 i (by omega), e5 m (Nat.le_refl _)]; have := q5 i (by omega) h2; omega) i (by omega) h2
  · have e5 : ∀ i, i < m + 1 → d5[i]! = d4[i]! := fun i hi => hp.2.1 i (.inl hi)
    have l5 : ∀ i, m < i → i < b' → d5[m]! ≤ d5[i]! := fun i h1 h2 => by
      have := perm_all hp hb4 (p := fun x => d4[m]! ≤ x) (fun i h1 h2 => by have := q5 i (by omega) h2; omega) i (by omega) h2
      rw [e5 m (by omega)]; exact this
    refine ⟨h.lo, q1, by have := h.hi; omega, hp.1.trans hs4, ?_, fun d' hp2 hs2 => ?_⟩
    · rcases hloL with h1 | h1
      · exact .inl h1
      · rcases Nat.eq_zero_or_pos a' with h0 | h0
        · exact .inl h0
        · exact .inr (fun i h2 h3 => by rw [e5 i (by omega), e5 (a' - 1) (by omega)]; exact h1 i h2 h3)
    · have hP : Sort.PermIn a' b' d4 d' := Sort.permIn_trans _ _ _ _ _ (Sort.permIn_mono _ _ _ _ _ _ (by omega) (Nat.le_refl _) hb4 hp) (Sort.permIn_mono _ _ _ _ _ _ (Nat.le_refl _) (by omega) (by rw [hp.1]; exact hb4) hp2)
      have e6 : ∀ i, m ≤ i → d'[i]! = d5[i]! := fun i hi => hp2.2.1 i (.inr hi)
      refine h.fin d' (Sort.permIn_trans _ _ _ _ _ q3 hP) (srt_join (m := m) hs2 (fun i j h1 h2 h3 => ?_) (fun i h1 h2 => ?_) (fun i h1 h2 => ?_))
      · rw [e6 i (by omega), e6 j (by omega)]; exact hs i j h1 h2 h3
      · rw [e6 m (Nat.le_refl _)]
        have := perm_all hp2 (by rw [hp.1]; omega) (p := fun x => x ≤ d5[m]!) (fun i h1 h2 => by rw [e5 i (by omega), e5 m (by omega)]; have := q4 i h1 h2; omega) i h1 h2
        exact this
      · rw [e6 m (Nat.le_refl _), e6 i (by omega)]; exact l5 i h1 h2
end
end Go.Proofs.Ytmflopeedofkhaa

namespace Go.Proofs.Ytmflopeedofkhaa
set_option linter.unusedSimpArgs false
set_option linter.unusedVariables false
set_option maxRecDepth 100000
open Go.RowKit

def PdqR (a b : Nat) (d : Array Nat) (w : World) (blk off : Nat) (e : Ending) (w' : World) : Prop := e = .returned (.tuple #[]) ∧ ∃ d', Sort.PermIn a b d d' ∧ Srt a b d' ∧ RowS w blk off d' w'
def pdqI (a b lim : Nat) (d : Array Nat) (w : World) (blk off : Nat) (k : Nat) (v1 v2 v3 v8 v9 : Value) (wr : World) : Prop :=
  ∃ (a' b' l' : Nat) (wb wp : Bool) (dk : Array Nat), v1 = .int .i64 (a' : Nat) ∧ v2 = .int .i64 (b' : Nat) ∧ v3 = .int .i64 (l' : Nat) ∧ v8 = .bool wb ∧ v9 = .bool wp ∧ b' - a' ≤ k ∧ k ≤ b - a ∧ l' ≤ lim ∧ PdqInv a b d a' b' dk ∧ RowS w blk off dk wr
def pdqC1 (a b lim : Nat) (d : Array Nat) (w : World) (blk off a' b' : Nat) (v3 : Value) (wr : World) : Prop :=
  ∃ (l' : Nat) (dk : Array Nat), v3 = .int .i64 (l' : Nat) ∧ l' ≤ lim ∧ PdqInv a b d a' b' dk ∧ RowS w blk off dk wr
def pdqC2 (a b : Nat) (d : Array Nat) (w : World) (blk off a' b' : Nat) (v11 v12 : Value) (wr : World) : Prop :=
  ∃ (p h : Nat) (dk : Array Nat), v11 = .int .i64 (p : Nat) ∧ v12 = .int .i64 (h : Nat) ∧ a' ≤ p ∧ p < b' ∧ PdqInv a b d a' b' dk ∧ RowS w blk off dk wr
def pdqC3 (a b : Nat) (d : Array Nat) (w : World) (blk off a' b' : Nat) (v11 : Value) (wr : World) : Prop :=
  ∃ (p : Nat) (dk : Array Nat), v11 = .int .i64 (p : Nat) ∧ a' ≤ p ∧ p < b' ∧ PdqInv a b d a' b' dk ∧ RowS w blk off dk wr
def pdqB (w : World) (v : Value) (wr : World) : Prop := ∃ t : Bool, v = .bool t ∧ w = wr
set_option maxHeartbeats 6400000 in
set_option maxRecDepth 100000 in
theorem pdq32_any (blk off cap : Nat) : ∀ (N a b lim : Nat) (d : Array Nat) (w : World), b - a = N → Sort.Holds e32 w blk off d → blk < w.heap.size → a ≤ b → b ≤ d.size → d.size < 65536 → lim < 65536 → LowB a b d →
    Calls Try.prog 51 #[.slice (some ⟨blk, off, none⟩) d.size cap, .int .i64 a, .int .i64 b, .int .i64 lim] w (PdqR a b d w blk off) := by
  intro N
  induction N using Nat.strongRecOn with
  | ind N IH =>
    intro a b lim d w hN hH hblk hab hb hsz hlim hlow
    have HIH := Lib.hid IH
    have HH := Lib.hid hH
    have hN2 : b - a ≤ N := by omega
    have HI0 := Lib.hid (PdqInv.start hab hlow)
    clear IH hH hlow hN
    go_enter Try.func51, Try.ntmps51
    go_wp2_with fail
    go_loopg [1, 2, 3, 8, 9] (b - a) (fun k v1 v2 v3 v8 v9 wr => pdqI a b lim d w blk off k v1 v2 v3 v8 v9 wr)
    case atStart => exact ⟨a, b, lim, true, true, d, rfl, rfl, rfl, rfl, rfl, Nat.le_refl _, Nat.le_refl _, Nat.le_refl _, HI0.out, HH.out, OnlyB.refl _ _⟩
    case round =>
      clear HI0
      obtain ⟨a', b', l', wb, wp, dk, rfl, rfl, rfl, rfl, rfl, hk, hkN, hl, hinv, hrs⟩ := hrel
      have i1 := hinv.lo
      have i2 := hinv.mid
      have i3 := hinv.hi
      have i4 := hinv.size
      have HI := Lib.hid hinv
      have HR := Lib.hid hrs
      have hz : blk < wr.heap.size := Nat.lt_of_lt_of_le hblk hrs.2.size
      clear hinv hrs
      by_cases h12 : b' - a' ≤ 12
      · have h12z : decide ((b' : Int) - (a' : Int) ≤ 12) = true := decide_eq_true (by omega)
        have hcall := ins32_any blk off cap a' b' dk wr HR.out.1 i2 (by omega) (by omega)
        rw [i4] at hcall
        have HC := Lib.hid hcall
        clear hcall
        go_wp2_with fail
        refine HC.out.mono ?_
        rintro e w1 ⟨rfl, n, rfl⟩
        go_wp2_with fail
        have hq := Sort.insertionSort_holds ltN_swo dk a' b' i2 (by omega)
        have hd := HI.out.done hq.1 hq.2
        (try simp only [Exit.inBlock, Exit.then])
        refine bodyPost_ret (results_none rfl _ _ _) rfl ?_
        exact ⟨rfl, _, hd.1, hd.2, HR.out.trans (rowW_rowS HR.out.1 hq.1.1)⟩
      · have h12z : decide ((b' : Int) - (a' : Int) ≤ 12) = false := decide_eq_false (by omega)
        by_cases hl0 : l' = 0
        · subst hl0
          have hcall := heap32_any blk off cap a' b' dk wr HR.out.1 i2 (by omega) (by omega)
          rw [i4] at hcall
          have HC := Lib.hid hcall
          clear hcall
          go_wp2_with fail
          refine HC.out.mono ?_
          rintro e w1 ⟨rfl, n, rfl⟩
          go_wp2_with fail
          have hq := Sort.heapSort_holds ltN_swo dk a' b' i2 (by omega)
          have hd := HI.out.done hq.1 hq.2
          (try simp only [Exit.inBlock, Exit.then])
          refine bodyPost_ret (results_none rfl _ _ _) rfl ?_
          exact ⟨rfl, _, hd.1, hd.2, HR.out.trans (rowW_rowS HR.out.1 hq.1.1)⟩
        · have hl0z : ((l' : Int) == 0) = false := by rw [beq_eq_false_iff_ne]; omega
          go_upto_if 35 with fail
          go_cut [3] (fun v wc => pdqC1 a b lim d w blk off a' b' v wc)
          case first =>
            cases wb
            · have hcall := brk32_any blk off cap a' b' dk wr HR.out.1 hz i2 (by omega) (by omega)
              rw [i4] at hcall
              have HC := Lib.hid hcall
              clear hcall
              go_wp2_with fail
              refine HC.out.mono ?_
              rintro e w1 ⟨rfl, d1, hp1, hr1⟩
              have HP1 := Lib.hid (And.intro hp1 hr1)
              clear hp1 hr1
              go_wp2_with fail
              go_meet
              exact ⟨l' - 1, d1, by congr 1; omega, by omega, HI.out.perm hb HP1.out.1, HR.out.trans HP1.out.2⟩
            · go_wp2_with fail
              go_meet
              exact ⟨l', dk, rfl, hl, HI.out, HR.out⟩
          case rest =>
            clear HR HI hz i4 dk
            obtain ⟨l2, dk, rfl, hl2, hinv, hrs⟩ := hcut
            have i4 := hinv.size
            have HI := Lib.hid hinv
            have HR := Lib.hid hrs
            have hz : blk < wc.heap.size := Nat.lt_of_lt_of_le hblk hrs.2.size
            clear hinv hrs
            have hcall := piv32_any blk off cap a' b' dk wc HR.out.1 hz (by omega) (by omega) (by omega)
            rw [i4] at hcall
            have HC := Lib.hid hcall
            clear hcall
            go_wp2_with fail
            refine HC.out.mono ?_
            clear HC
            rintro e w1 ⟨p, h, rfl, hp1, hp2, hh, ho⟩
            have HR1 := Lib.hid (show RowS w blk off dk w1 from ⟨ho.holds HR.out.1 hz (by simp), HR.out.2.trans ho (fun _ _ e => e.elim)⟩)
            have hz1 : blk < w1.heap.size := Nat.lt_of_lt_of_le hz ho.size
            clear HR hz ho
            go_upto_if 50 with fail
            go_cut [11, 12] (fun v11 v12 wc => pdqC2 a b d w blk off a' b' v11 v12 wc)
            case first =>
              by_cases h2 : h = 2
              · subst h2
                have hcall := rev32_any blk off cap a' b' dk w1 HR1.out.1 i2 (by omega) (by omega)
                rw [i4] at hcall
                have HC := Lib.hid hcall
                clear hcall
                go_wp2_with fail
                refine HC.out.mono ?_
                rintro e w2 ⟨rfl, n, rfl⟩
                have hq := Sort.reverseRange_holds dk a' b' i2 (by omega)
                have HQ := Lib.hid hq
                clear hq
                go_wp2_with fail
                go_meet
                exact ⟨(b' - 1) - (p - a'), 1, _, by congr 1; omega, rfl, by omega, by omega, HI.out.perm hb HQ.out, HR1.out.trans (rowW_rowS HR1.out.1 HQ.out.1)⟩
              · have h2z : ((h : Int) == 2) = false := by rw [beq_eq_false_iff_ne]; omega
                go_wp2_with fail
                go_meet
                exact ⟨p, h, dk, rfl, rfl, hp1, hp2, HI.out, HR1.out⟩
            case rest =>
              clear HR1 HI hz1 i4 hp1 hp2 hh dk
              obtain ⟨p2, h2, dk, rfl, rfl, hp1, hp2, hinv, hrs⟩ := hcut
              have i4 := hinv.size
              have HI := Lib.hid hinv
              have HR := Lib.hid hrs
              have hz : blk < wc.heap.size := Nat.lt_of_lt_of_le hblk hrs.2.size
              clear hinv hrs
              go_upto_region 15 with fail
              go_cut [68] (fun v wd => pdqB wc v wd)
              case first =>
                cases wb
                · go_wp2_with fail
                  go_meet
                  exact ⟨_, rfl, rfl⟩
                · cases wp
                  · go_wp2_with fail
                    go_meet
                    exact ⟨_, rfl, rfl⟩
                  · go_wp2_with fail
                    go_meet
                    exact ⟨_, rfl, rfl⟩
              case rest =>
                obtain ⟨t, rfl, rfl⟩ := hcut
                go_upto_if 68 with fail
                go_cut [11] (fun v11 wd => pdqC3 a b d w blk off a' b' v11 wd)
                case first =>
                  cases t
                  · go_wp2_with fail
                    go_meet
                    exact ⟨p2, dk, rfl, hp1, hp2, HI.out, HR.out⟩
                  · have hcall := pins32_any blk off cap a' b' dk wc HR.out.1 (by omega) (by omega) (by omega)
                    have hq := Sort.partialInsertionSort_holds ltN_swo dk a' b' (by omega) (by omega) (low_of HI.out.low)
                    rw [i4] at hcall
                    obtain ⟨⟨d1, q⟩, hx⟩ : ∃ x, Sort.partialInsertionSort ltN dk a' b' = x := ⟨_, rfl⟩
                    rw [hx] at hcall hq
                    simp only at hcall hq
                    have HC := Lib.hid hcall
                    have HQ := Lib.hid hq
                    clear hcall hq hx
                    go_wp2_with fail
                    refine HC.out.mono ?_
                    clear HC
                    rintro e w2 ⟨rfl, n, rfl⟩
                    cases q
                    · go_wp2_with fail
                      go_meet
                      exact ⟨p2, d1, rfl, hp1, hp2, HI.out.perm hb HQ.out.1, HR.out.trans (rowW_rowS HR.out.1 HQ.out.1.1)⟩
                    · go_wp2_with fail
                      have hd := HI.out.done HQ.out.1 (HQ.out.2 (by simp))
                      (try simp only [Exit.inBlock, Exit.then])
                      refine bodyPost_ret (results_none rfl _ _ _) rfl ?_
                      exact ⟨rfl, _, hd.1, hd.2, HR.out.trans (rowW_rowS HR.out.1 HQ.out.1.1)⟩
                case rest =>
                  clear HR HI hz i4 hp1 hp2 dk
                  obtain ⟨p3, dk, rfl, hp1, hp2, hinv, hrs⟩ := hcut
                  have i4 := hinv.size
                  have HI := Lib.hid hinv
                  have HR := Lib.hid hrs
                  have hz : blk < wc.heap.size := Nat.lt_of_lt_of_le hblk hrs.2.size
                  clear hinv hrs
                  obtain ⟨G, hG⟩ : ∃ G : Nat → Nat, ∀ t, G t = dk[t]! := ⟨fun t => dk[t]!, fun _ => rfl⟩
                  have hcw : ∀ t, t < d.size → wc.cell? ⟨blk, off + t, none⟩ = some (.int .u32 ((G t : Nat) : Int)) := fun t ht => by rw [hG]; exact (HR.out.1 t (by omega)).1
                  have HG := Lib.hid hG
                  clear hG
                  by_cases h0 : 0 < a'
                  · have h0z : decide ((0 : Int) < (a' : Int)) = true := decide_eq_true (by omega)
                    have h0y : decide (0 < a') = true := decide_eq_true h0
                    go_wp2_with fail
                    go_quiet ((go_at_call 67; exact Calls.quiet_of_same (less32_any _ _ _)))
                    obtain ⟨L, hL⟩ : ∃ L, L = !ltN (G (a' - 1)) (G p3) := ⟨_, rfl⟩
                    rw [← hL]
                    rw [HG.out, HG.out] at hL
                    have HL := Lib.hid hL
                    have HR3 := Lib.hid (show RowS w blk off dk (wc.drewN nq) from ⟨HR.out.1, HR.out.2.drewN _⟩)
                    generalize wc.drewN nq = w5 at HR3 ⊢
                    clear hL hcw HG HR hz wc
                    have HR := Lib.hid HR3.out
                    clear HR3
                    cases L
                    · have hcall := part32_any blk off cap a' b' p3 dk w5 HR.out.1 hp1 hp2 (by omega) (by omega)
                      rw [i4] at hcall
                      obtain ⟨⟨m, ap, d4⟩, hx⟩ : ∃ x, Sort.partition ltN dk a' b' p3 = x := ⟨_, rfl⟩
                      obtain ⟨m1, m2, m3, m4, m5, m6, m7⟩ := HI.out.left hb hp1 hp2 hx
                      rw [hx] at hcall
                      simp only at hcall
                      have HC := Lib.hid hcall
                      have HM4 := Lib.hid m4
                      have HM5 := Lib.hid m5
                      have HM6 := Lib.hid m6
                      have HM7 := Lib.hid m7
                      have hq4 : d4.size = dk.size := by rw [m3, i4]
                      clear hcall hx m4 m5 m6 m7 HI
                      go_wp2_with fail
                      refine HC.out.mono ?_
                      clear HC
                      rintro e w2 ⟨rfl, n, hw2⟩
                      have HR2 := Lib.hid (show RowS w blk off d4 w2 by rw [hw2]; exact HR.out.trans (rowW_rowS HR.out.1 hq4))
                      clear HR hw2 hq4
                      have hz2 : blk < w2.heap.size := Nat.lt_of_lt_of_le hblk HR2.out.2.size
                      by_cases hlr : m - a' < b' - m
                      · have hlz : decide ((m : Int) - (a' : Int) < (b' : Int) - (m : Int)) = true := decide_eq_true (by omega)
                        have hrec := HIH.out (m - a') (by omega) a' m l2 d4 w2 rfl HR2.out.1 hz2 m1 (by omega) (by omega) (by omega) HM4.out
                        rw [m3] at hrec
                        have HC := Lib.hid hrec
                        clear hrec
                        go_wp2_with fail
                        refine HC.out.mono ?_
                        clear HC
                        rintro e w3 ⟨rfl, d5, hp5, hs5, hr5⟩
                        have HN5 := Lib.hid (HM6.out d5 hp5 hs5)
                        have HR5 := Lib.hid (HR2.out.trans hr5)
                        clear hp5 hs5 hr5
                        go_wp2_with fail
                        go_roundg (b' - (m + 1))
                        case measure => omega
                        case rel => exact ⟨m + 1, b', l2, _, ap, d5, by go_num, rfl, rfl, rfl, rfl, Nat.le_refl _, by omega, hl2, HN5.out, HR5.out⟩
                      · have hlz : decide ((m : Int) - (a' : Int) < (b' : Int) - (m : Int)) = false := decide_eq_false (by omega)
                        have hrec := HIH.out (b' - (m + 1)) (by omega) (m + 1) b' l2 d4 w2 rfl HR2.out.1 hz2 (by omega) (by omega) (by omega) (by omega) HM5.out
                        rw [m3] at hrec
                        have HC := Lib.hid hrec
                        clear hrec
                        go_wp2_with fail
                        rw [show ((m : Int) + 1) = ((m + 1 : Nat) : Int) by omega]
                        refine HC.out.mono ?_
                        clear HC
                        rintro e w3 ⟨rfl, d5, hp5, hs5, hr5⟩
                        have HN5 := Lib.hid (HM7.out d5 hp5 hs5)
                        have HR5 := Lib.hid (HR2.out.trans hr5)
                        clear hp5 hs5 hr5
                        go_wp2_with fail
                        go_roundg (m - a')
                        case measure => omega
                        case rel => exact ⟨a', m, l2, _, ap, d5, rfl, rfl, rfl, rfl, rfl, Nat.le_refl _, by omega, hl2, HN5.out, HR5.out⟩
                    · have hcall := peq32_any blk off cap a' b' p3 dk w5 HR.out.1 hp1 hp2 (by omega) (by omega)
                      rw [i4] at hcall
                      obtain ⟨⟨m, d4⟩, hx⟩ : ∃ x, Sort.partitionEqual ltN dk a' b' p3 = x := ⟨_, rfl⟩
                      have hl := HI.out.eq hb hp1 hp2 h0 (by have := HL.out; rw [eq_comm, Bool.not_eq_true'] at this; exact this) hx
                      rw [hx] at hcall
                      simp only at hcall
                      have HC := Lib.hid hcall
                      have HE := Lib.hid hl.2
                      have hm1 := hl.1
                      have hm2 := hl.2.mid
                      have hq4 : d4.size = dk.size := by rw [hl.2.size, i4]
                      clear hcall hl hx
                      go_wp2_with fail
                      refine HC.out.mono ?_
                      clear HC
                      rintro e w2 ⟨rfl, n, hw2⟩
                      have HR2 := Lib.hid (show RowS w blk off d4 w2 by rw [hw2]; exact HR.out.trans (rowW_rowS HR.out.1 hq4))
                      clear hw2 hq4
                      go_wp2_with fail
                      go_roundg (b' - m)
                      case measure => omega
                      case rel => exact ⟨m, b', l2, wb, wp, d4, rfl, rfl, rfl, rfl, rfl, Nat.le_refl _, by omega, hl2, HE.out, HR2.out⟩
                  · have h0z : decide ((0 : Int) < (a' : Int)) = false := decide_eq_false (by omega)
                    have h0y : decide (0 < a') = false := decide_eq_false h0
                    go_wp2_with fail
                    go_quiet (fail)
                    have HR3 := Lib.hid (show RowS w blk off dk (wc.drewN nq) from ⟨HR.out.1, HR.out.2.drewN _⟩)
                    generalize wc.drewN nq = w5 at HR3 ⊢
                    clear hcw HG HR hz wc
                    have HR := Lib.hid HR3.out
                    clear HR3
                    have hcall := part32_any blk off cap a' b' p3 dk w5 HR.out.1 hp1 hp2 (by omega) (by omega)
                    rw [i4] at hcall
                    obtain ⟨⟨m, ap, d4⟩, hx⟩ : ∃ x, Sort.partition ltN dk a' b' p3 = x := ⟨_, rfl⟩
                    obtain ⟨m1, m2, m3, m4, m5, m6, m7⟩ := HI.out.left hb hp1 hp2 hx
                    rw [hx] at hcall
                    simp only at hcall
                    have HC := Lib.hid hcall
                    have HM4 := Lib.hid m4
                    have HM5 := Lib.hid m5
                    have HM6 := Lib.hid m6
                    have HM7 := Lib.hid m7
                    have hq4 : d4.size = dk.size := by rw [m3, i4]
                    clear hcall hx m4 m5 m6 m7 HI
                    go_wp2_with fail
                    refine HC.out.mono ?_
                    clear HC
                    rintro e w2 ⟨rfl, n, hw2⟩
                    have HR2 := Lib.hid (show RowS w blk off d4 w2 by rw [hw2]; exact HR.out.trans (rowW_rowS HR.out.1 hq4))
                    clear HR hw2 hq4
                    have hz2 : blk < w2.heap.size := Nat.lt_of_lt_of_le hblk HR2.out.2.size
                    by_cases hlr : m - a' < b' - m
                    · have hlz : decide ((m : Int) - (a' : Int) < (b' : Int) - (m : Int)) = true := decide_eq_true (by omega)
                      have hrec := HIH.out (m - a') (by omega) a' m l2 d4 w2 rfl HR2.out.1 hz2 m1 (by omega) (by omega) (by omega) HM4.out
                      rw [m3] at hrec
                      have HC := Lib.hid hrec
                      clear hrec
                      go_wp2_with fail
                      refine HC.out.mono ?_
                      clear HC
                      rintro e w3 ⟨rfl, d5, hp5, hs5, hr5⟩
                      have HN5 := Lib.hid (HM6.out d5 hp5 hs5)
                      have HR5 := Lib.hid (HR2.out.trans hr5)
                      clear hp5 hs5 hr5
                      go_wp2_with fail
                      go_roundg (b' - (m + 1))
                      case measure => omega
                      case rel => exact ⟨m + 1, b', l2, _, ap, d5, by go_num, rfl, rfl, rfl, rfl, Nat.le_refl _, by omega, hl2, HN5.out, HR5.out⟩
                    · have hlz : decide ((m : Int) - (a' : Int) < (b' : Int) - (m : Int)) = false := decide_eq_false (by omega)
                      have hrec := HIH.out (b' - (m + 1)) (by omega) (m + 1) b' l2 d4 w2 rfl HR2.out.1 hz2 (by omega) (by omega) (by omega) (by omega) HM5.out
                      rw [m3] at hrec
                      have HC := Lib.hid hrec
                      clear hrec
                      go_wp2_with fail
                      rw [show ((m : Int) + 1) = ((m + 1 : Nat) : Int) by omega]
                      refine HC.out.mono ?_
                      clear HC
                      rintro e w3 ⟨rfl, d5, hp5, hs5, hr5⟩
                      have HN5 := Lib.hid (HM7.out d5 hp5 hs5)
                      have HR5 := Lib.hid (HR2.out.trans hr5)
                      clear hp5 hs5 hr5
                      go_wp2_with fail
                      go_roundg (m - a')
                      case measure => omega
                      case rel => exact ⟨a', m, l2, _, ap, d5, rfl, rfl, rfl, rfl, rfl, Nat.le_refl _, by omega, hl2, HN5.out, HR5.out⟩

/-- slices.Sort: rising, the same numbers; else nothing that was there has turned. -/
theorem sort32_any (blk off cap : Nat) (d : Array Nat) (w : World) (hH : Sort.Holds e32 w blk off d) (hblk : blk < w.heap.size) (hsz : d.size < 65536) :
    Calls Try.prog 30 #[.slice (some ⟨blk, off, none⟩) d.size cap] w (PdqR 0 d.size d w blk off) := by
  have h8 := Lib.bitLen_le d.size 16 (by omega) (by omega)
  have hw : IntKind.u64.wrap (d.size : Int) = (d.size : Int) := by simp [IntKind.wrap, IntKind.bits, IntKind.signed]; omega
  have HL := Lib.hid (fun W => len_any d.size hsz W)
  have HP := Lib.hid (pdq32_any blk off cap d.size 0 d.size (Lib.bitLen d.size) d w (by omega) hH hblk (Nat.zero_le _) (Nat.le_refl _) hsz (by omega) (.inl rfl))
  clear hH
  go_enter Try.func30, Try.ntmps30
  go_wp2_with (first
    | (go_at_call 52; refine (HL.out _).mono ?_; rintro e w' ⟨rfl, rfl⟩)
    | (go_at_call 51; refine HP.out.mono ?_; rintro e w' ⟨rfl, hx⟩; have HX := Lib.hid hx; clear hx))
  go_end0
  exact ⟨rfl, HX.out⟩
end Go.Proofs.Ytmflopeedofkhaa

namespace Go.Proofs.Ytmflopeedofkhaa
set_option linter.unusedSimpArgs false
set_option linter.unusedVariables false
set_option maxRecDepth 100000
open Go.RowKit

theorem ins32_nil (ao : Option Addr) (cap : Nat) (w : World) : Calls Try.prog 61 #[.slice ao 0 cap, .int .i64 0, .int .i64 0] w fun e w' => e = .returned (.tuple #[]) ∧ w' = w := by
  go_enter Try.func61, Try.ntmps61
  go_wp2_with fail
  refine wp_loop_rounds 1 ?_
  rw [rounds_succ]
  go_wp2_with fail
  go_end0
  exact ⟨rfl, rfl⟩
set_option maxRecDepth 100000 in
theorem pdq32_nil (ao : Option Addr) (cap : Nat) (l : Nat) (w : World) : Calls Try.prog 51 #[.slice ao 0 cap, .int .i64 0, .int .i64 0, .int .i64 l] w fun e w' => e = .returned (.tuple #[]) ∧ w' = w := by
  go_enter Try.func51, Try.ntmps51
  go_wp2_with fail
  refine wp_loop_rounds 1 ?_
  rw [rounds_succ]
  go_wp2_with (go_at_call 61; refine (ins32_nil _ _ _).mono ?_; rintro e w' ⟨rfl, rfl⟩)
  (try simp only [Exit.inBlock, Exit.then])
  refine bodyPost_ret (results_none rfl _ _ _) rfl ?_
  exact ⟨rfl, rfl⟩
theorem sort32_nil (ao : Option Addr) (cap : Nat) (w : World) : Calls Try.prog 30 #[.slice ao 0 cap] w fun e w' => e = .returned (.tuple #[]) ∧ w' = w := by
  have HL := Lib.hid (fun W => len_any 0 (by omega) W)
  go_enter Try.func30, Try.ntmps30
  go_wp2_with (first
    | (go_at_call 52; refine (HL.out _).mono ?_; rintro e w' ⟨rfl, rfl⟩)
    | (go_at_call 51; refine (pdq32_nil _ _ _ _).mono ?_; rintro e w' ⟨rfl, rfl⟩))
  go_end0
  exact ⟨rfl, rfl⟩
end Go.Proofs.Ytmflopeedofkhaa

namespace Go.Proofs.Ytmflopeedofkhaa
set_option linter.unusedSimpArgs false
set_option linter.unusedVariables false
set_option maxRecDepth 100000
open Go.RowKit

/-- of numbers, those that differ from the one ahead -/
def keptN (G : Nat → Nat) : Nat → List Nat
  | 0 => []
  | r + 1 => keptN G r ++ (if r = 0 ∨ G r ≠ G (r - 1) then [G r] else [])
theorem keptN_yes {G : Nat → Nat} {r : Nat} (h : r = 0 ∨ G r ≠ G (r - 1)) : keptN G (r + 1) = keptN G r ++ [G r] := by rw [keptN, if_pos h]
theorem keptN_no {G : Nat → Nat} {r : Nat} (h : ¬ (r = 0 ∨ G r ≠ G (r - 1))) : keptN G (r + 1) = keptN G r := by rw [keptN, if_neg h, List.append_nil]
theorem keptN_le (G : Nat → Nat) : ∀ r, (keptN G r).length ≤ r
  | 0 => by simp [keptN]
  | r + 1 => by
    have := keptN_le G r
    rw [keptN, List.length_append]
    split <;> simp <;> omega
theorem keptN_all (G : Nat → Nat) : ∀ k, (∀ i, 1 ≤ i → i < k → G i ≠ G (i - 1)) → keptN G k = (List.range k).map G
  | 0, _ => rfl
  | k + 1, h => by
    rw [keptN_yes, keptN_all G k (fun i h1 h2 => h i h1 (by omega)), List.range_succ, List.map_append]
    · rfl
    · rcases Nat.eq_zero_or_pos k with h0 | h0
      · exact .inl h0
      · exact .inr (h k h0 (by omega))
theorem rangeGet (G : Nat → Nat) (k t : Nat) (h : t < k) : ((List.range k).map G)[t]! = G t := by
  rw [getElem!_pos _ t (by simpa using h)]
  simp
theorem getB (l : List Nat) (x : Nat) (t : Nat) (h : t < l.length) : (l ++ [x])[t]! = l[t]! := by
  rw [getElem!_pos _ t (by simp; omega), getElem!_pos l t h, List.getElem_append_left h]
theorem getLastB (l : List Nat) (x : Nat) : (l ++ [x])[l.length]! = x := by
  rw [getElem!_pos _ _ (by simp)]
  simp
theorem set_same (d : Array Nat) (i x : Nat) (hi : i < d.size) : (d.setIfInBounds i x)[i]! = x := Sort.getElem!_set_same d i x hi
theorem set_other (d : Array Nat) (i k x : Nat) (h : k ≠ i) : (d.setIfInBounds i x)[k]! = d[k]! := Sort.getElem!_set_other d i k x h
theorem RowS.set {w wr : World} {blk off : Nat} {d : Array Nat} (h : RowS w blk off d wr) {i : Nat} (hi : i < d.size) (x : Nat) : RowS w blk off (d.setIfInBounds i x) (wr.setCell ⟨blk, off + i, none⟩ (.int .u32 (x : Nat))) := by
  have e := Sort.putRow_set e32 wr blk off d i x hi
  rw [Sort.putRow_self e32 wr blk off d h.1] at e
  refine ⟨?_, h.2.setCell (p := ⟨blk, off + i, none⟩) (fun _ => rfl) _⟩
  rw [e]
  exact Sort.holds_putRow e32 wr blk off d _ h.1 (by simp)
theorem RowS.drewN {w wr : World} {blk off : Nat} {d : Array Nat} (h : RowS w blk off d wr) (n : Nat) : RowS w blk off d (wr.drewN n) := ⟨h.1, h.2.drewN n⟩
theorem OnlyB.setCells (b : Nat) : ∀ (vs : List Value) (o : Nat) (w : World), OnlyB (fun k => k = b) w (w.setCells b o vs)
  | [], _, w => OnlyB.refl _ _
  | v :: r, o, w => ((OnlyB.refl (fun k => k = b) w).setCell (p := ⟨b, o, none⟩) (fun _ => rfl) v).trans (OnlyB.setCells b r (o + 1) _) (fun _ _ h => h)
theorem RowS.clear {w wr : World} {blk off : Nat} {d : Array Nat} (h : RowS w blk off d wr) (q : Nat) (l : List Nat) (hl : l.length ≤ q) (hq : q ≤ d.size) (hd : ∀ t, t < l.length → d[t]! = l[t]!) (vs : List Value) :
    RowS w blk off l.toArray (wr.setCells blk (off + q) vs) := by
  refine ⟨fun j hj => ?_, h.2.trans (OnlyB.setCells _ _ _ _) (fun _ _ e => e)⟩
  simp only [List.size_toArray] at hj
  have h1 := h.1 j (by omega)
  rw [World.cell?_setCells_out blk vs _ wr _ (fun _ _ => .inl (by show off + j < off + q; omega)), World.frozen?_setCells]
  refine ⟨?_, h1.2⟩
  rw [h1.1, hd j hj]
  simp [e32, hj]
def CompR (blk off cap : Nat) (l : List Nat) (w : World) (e : Ending) (w' : World) : Prop := e = .returned (.slice (some ⟨blk, off, none⟩) l.length cap) ∧ RowS w blk off l.toArray w'
def coI (d : Array Nat) (w : World) (v : Value) (wr : World) : Prop := ∃ k n : Nat, v = .int .i64 (k : Nat) ∧ 1 ≤ k ∧ k ≤ d.size ∧ (∀ i, 1 ≤ i → i < k → d[i]! ≠ d[i - 1]!) ∧ wr = w.drewN n
def coJ (d : Array Nat) (w : World) (blk off k : Nat) (v3 v5 : Value) (wr : World) : Prop :=
  ∃ (r q : Nat) (dk : Array Nat), v3 = .int .i64 (q : Nat) ∧ v5 = .int .i64 (r : Nat) ∧ 1 ≤ r ∧ k + r ≤ d.size ∧ q + 1 ≤ k + r ∧ dk.size = d.size ∧ q = (keptN (fun t => d[t]!) (k + r)).length ∧
    (∀ t, t < q → dk[t]! = (keptN (fun t => d[t]!) (k + r))[t]!) ∧ (∀ t, q ≤ t → dk[t]! = d[t]!) ∧ RowS w blk off dk wr
set_option maxHeartbeats 3200000 in
set_option maxRecDepth 100000 in
theorem comp32_any (blk off cap : Nat) (d : Array Nat) (w : World) (hH : Sort.Holds e32 w blk off d) (hcap : d.size ≤ cap) (hcm : cap ≤ 9223372036854775807) (hsz : d.size < 65536) :
    Calls Try.prog 31 #[.slice (some ⟨blk, off, none⟩) d.size cap] w (CompR blk off cap (keptN (fun t => d[t]!) d.size) w) := by
  have HH := Lib.hid hH
  clear hH
  by_cases h2 : d.size < 2
  · have h2z : decide ((d.size : Int) < 2) = true := decide_eq_true (by omega)
    have hk := keptN_all (fun t => d[t]!) d.size (fun i h1 h2 => by omega)
    have hkl : (keptN (fun t => d[t]!) d.size).length = d.size := by rw [hk]; simp
    have hkd : (keptN (fun t => d[t]!) d.size).toArray = d := by
      rw [hk]
      apply Array.ext
      · simp
      · intro i h1 h2
        simp
        rw [getElem!_pos d i h2]
    have HK := Lib.hid (And.intro hkl hkd)
    clear hk hkl hkd
    go_enter Try.func31, Try.ntmps31
    go_wp2
    go_ret
    exact ⟨by rw [HK.out.1]; rfl, by rw [HK.out.2]; exact ⟨HH.out, OnlyB.refl _ _⟩⟩
  · have h2z : decide ((d.size : Int) < 2) = false := decide_eq_false (by omega)
    go_enter Try.func31, Try.ntmps31
    go_wp2_with fail
    go_loopw [3] (fun v wr => coI d w v wr) (fun v _ => d.size - (intOf v).toNat)
    case atStart => exact ⟨1, 0, rfl, by omega, by omega, fun i h1 h2 => by omega, rfl⟩
    case round =>
      obtain ⟨k, n, rfl, hk1, hkn, hne, rfl⟩ := hrel
      have HN := Lib.hid hne
      clear hne
      by_cases hlt : k < d.size
      · have hltz : (k : Int) < (d.size : Int) := by omega
        obtain ⟨G, hG⟩ : ∃ G : Nat → Nat, ∀ t, G t = d[t]! := ⟨fun t => d[t]!, fun _ => rfl⟩
        have hcw : ∀ t, t < d.size → w.cell? ⟨blk, off + t, none⟩ = some (.int .u32 ((G t : Nat) : Int)) := fun t ht => by rw [hG]; exact (HH.out t ht).1
        have HG := Lib.hid hG
        clear hG
        by_cases heq : G k = G (k - 1)
        · have heqz : (((G k : Nat) : Int) == ((G (k - 1) : Nat) : Int)) = true := by simp [heq]
          have heq2 : d[k]! = d[k - 1]! := by rw [← HG.out, ← HG.out]; exact heq
          have HE2 := Lib.hid heq2
          clear heq heq2
          go_wp2_with fail
          go_quiet (fail)
          have hk0 : (0 : Int) ≤ (k : Int) := by omega
          have hkc : (k : Int) ≤ (cap : Int) := by omega
          have hkc2 : ¬ cap = k := by omega
          have hkc3 : ¬ k = cap := by omega
          obtain ⟨w2, hw2⟩ : ∃ w2, w2 = (w.drewN n).drewN nq := ⟨_, rfl⟩
          rw [← hw2]
          have HS2 := Lib.hid (show RowS w blk off d w2 by rw [hw2]; exact ⟨HH.out, ((OnlyB.refl _ _).drewN _).drewN _⟩)
          clear hw2 hcw HG
          go_wp2_with fail
          have hk0 := keptN_all (fun t => d[t]!) k HN.out
          have hk1' : keptN (fun t => d[t]!) (k + 1) = (List.range k).map (fun t => d[t]!) := by rw [keptN_no (by intro h; rcases h with h | h; omega; exact h HE2.out), hk0]
          have HK := Lib.hid hk1'
          clear hk0 hk1'
          go_loopw [3, 5] (fun v3 v5 wr => coJ d w blk off k v3 v5 wr) (fun _ v5 _ => d.size - (intOf v5).toNat)
          case atStart =>
            refine ⟨1, k, d, rfl, rfl, Nat.le_refl _, by omega, by omega, rfl, by rw [HK.out]; simp, fun t ht => ?_, fun t _ => rfl, HS2.out⟩
            rw [HK.out, rangeGet _ k t ht]
          case round =>
            clear HK HS2 HE2 HN
            obtain ⟨r, q, dk, rfl, rfl, hr1, hr2, hqr, hds, hq, hlo, hhi, hrs⟩ := hrel
            have HQ := Lib.hid hq
            have HLo := Lib.hid hlo
            have HHi := Lib.hid hhi
            have HRS := Lib.hid hrs
            clear hq hlo hhi hrs
            by_cases hrt : r < d.size - k
            · have hrz : decide (r < d.size - k) = true := decide_eq_true hrt
              obtain ⟨G, hG⟩ : ∃ G : Nat → Nat, ∀ t, G t = dk[t]! := ⟨fun t => dk[t]!, fun _ => rfl⟩
              have hcw : ∀ t, t < d.size → wr.cell? ⟨blk, off + t, none⟩ = some (.int .u32 ((G t : Nat) : Int)) := fun t ht => by rw [hG]; exact (HRS.out.1 t (by omega)).1
              have hfw : ∀ t, t < d.size → wr.frozen? ⟨blk, off + t, none⟩ = false := fun t ht => (HRS.out.1 t (by omega)).2
              have HG := Lib.hid hG
              clear hG
              have e1 : G (k + r) = d[k + r]! := by rw [HG.out]; exact HHi.out _ (by omega)
              have e2 : G (k + (r - 1)) = d[k + r - 1]! := by rw [HG.out, show k + (r - 1) = k + r - 1 by omega]; exact HHi.out _ (by omega)
              have HE := Lib.hid (And.intro e1 e2)
              clear e1 e2
              by_cases heq : G (k + r) = G (k + (r - 1))
              · have heqz : (((G (k + r) : Nat) : Int) != ((G (k + (r - 1)) : Nat) : Int)) = false := by simp [heq]
                have hkn2 : keptN (fun t => d[t]!) (k + r + 1) = keptN (fun t => d[t]!) (k + r) := keptN_no (by
                  intro h
                  rcases h with h | h
                  · omega
                  · exact h (by rw [← HE.out.1, ← HE.out.2]; exact heq))
                have HKN := Lib.hid hkn2
                clear hkn2 heq
                go_wp2_with fail
                go_quiet (fail)
                go_wp2_with fail
                go_roundw
                case rel => exact ⟨r + 1, q, dk, rfl, by go_num, by omega, by omega, by omega, hds, by rw [show k + (r + 1) = k + r + 1 by omega, HKN.out]; exact HQ.out, by rw [show k + (r + 1) = k + r + 1 by omega, HKN.out]; exact HLo.out, HHi.out, HRS.out.drewN _⟩
                case measure => simp [intOf]; omega
              · have heqz : (((G (k + r) : Nat) : Int) != ((G (k + (r - 1)) : Nat) : Int)) = true := by rw [bne_iff_ne]; omega
                have hkn2 : keptN (fun t => d[t]!) (k + r + 1) = keptN (fun t => d[t]!) (k + r) ++ [d[k + r]!] := keptN_yes (.inr (by
                  intro h
                  exact heq (by rw [HE.out.1, HE.out.2]; exact h)))
                have HKN := Lib.hid hkn2
                clear hkn2 heq
                go_wp2_with fail
                go_quiet (fail)
                go_wp2_with fail
                go_roundw
                case rel =>
                  rw [HE.out.1]
                  refine ⟨r + 1, q + 1, dk.setIfInBounds q d[k + r]!, by go_num, by go_num, by omega, by omega, by omega, by simpa using hds, by rw [show k + (r + 1) = k + r + 1 by omega, HKN.out, List.length_append, HQ.out]; rfl, fun t ht => ?_, fun t ht => ?_, (HRS.out.drewN nq).set (by omega) _⟩
                  · rw [show k + (r + 1) = k + r + 1 by omega, HKN.out]
                    rcases Nat.lt_or_ge t q with h | h
                    · rw [set_other _ _ _ _ (by omega), getB _ _ _ (by rw [← HQ.out]; exact h)]
                      exact HLo.out t h
                    · obtain rfl : t = q := by omega
                      rw [set_same _ _ _ (by omega)]
                      have := getLastB (keptN (fun t => d[t]!) (k + r)) d[k + r]!
                      rw [← HQ.out] at this
                      exact this.symm
                  · rw [set_other _ _ _ _ (by omega)]
                    exact HHi.out t (by omega)
                case measure => simp [intOf]; omega
            · have hrz : decide (r < d.size - k) = false := decide_eq_false hrt
              have hkr : k + r = d.size := by omega
              have hq := HQ.out
              have hlo := HLo.out
              rw [hkr] at hq hlo
              have HQ2 := Lib.hid hq
              have HL2 := Lib.hid hlo
              have hz0 : (zeroValue 25).run Try.prog = fun w => .ok (.int .u32 0) w := by funext w; kernel_rfl
              have hcl : ∀ ty, (Builtin.clear_ #[26] ty #[.slice (some ⟨blk, off + q, none⟩) (d.size - q) (cap - q)]).run Try.prog wr = .ok (.tuple #[]) (wr.setCells blk (off + q) (List.replicate (d.size - q) (.int .u32 0))) :=
                fun ty => Lib.run_clear_slice wr 26 25 ty _ Try.underlying26 (fun w => by rw [hz0]) rfl rfl blk (off + q) _ _ (by omega)
                  (fun j hj => by rw [show off + q + j = off + (q + j) by omega, (HRS.out.1 (q + j) (by omega)).1]; rfl) (fun j hj => by rw [show off + q + j = off + (q + j) by omega]; exact (HRS.out.1 (q + j) (by omega)).2)
              have hqc : (q : Int) ≤ (d.size : Int) := by omega
              have hq0 : (0 : Int) ≤ (q : Int) := by omega
              have hqc2 : ¬ cap = q := by omega
              have hqc3 : (q : Int) ≤ (cap : Int) := by omega
              clear hkr hq hlo hz0 HQ HLo
              go_wp2_with fail
              go_ret
              refine ⟨by rw [← HQ2.out]; rfl, ?_⟩
              exact HRS.out.clear q _ (by rw [← HQ2.out]; exact Nat.le_refl _) (by omega) (fun t ht => HL2.out t (by rw [HQ2.out]; exact ht)) _
        · have heqz : (((G k : Nat) : Int) == ((G (k - 1) : Nat) : Int)) = false := by rw [beq_eq_false_iff_ne]; omega
          have HE2 := Lib.hid (show d[k]! ≠ d[k - 1]! by rw [← HG.out, ← HG.out]; exact heq)
          clear heq
          go_wp2_with fail
          go_quiet (fail)
          go_wp2_with fail
          go_roundw
          case rel =>
            refine ⟨k + 1, _, by go_num, by omega, by omega, fun i h1 h2 => ?_, rfl⟩
            rcases Nat.lt_or_ge i k with h | h
            · exact HN.out i h1 h
            · rw [show i = k by omega]; exact HE2.out
          case measure => simp [intOf]; omega
      · obtain rfl : k = d.size := by omega
        have hk := keptN_all (fun t => d[t]!) d.size HN.out
        have hkl : (keptN (fun t => d[t]!) d.size).length = d.size := by rw [hk]; simp
        have hkd : (keptN (fun t => d[t]!) d.size).toArray = d := by
          rw [hk]
          apply Array.ext
          · simp
          · intro i h1 h2
            simp
            rw [getElem!_pos d i h2]
        have HK := Lib.hid (And.intro hkl hkd)
        clear hk hkl hkd
        go_wp2_with fail
        go_ret
        exact ⟨by rw [HK.out.1]; rfl, by rw [HK.out.2]; exact ⟨HH.out, (OnlyB.refl _ _).drewN _⟩⟩

/-! ### of nothing -/
theorem comp32_nil (ao : Option Addr) (cap : Nat) (w : World) : Calls Try.prog 31 #[.slice ao 0 cap] w fun e w' => e = .returned (.slice ao 0 cap) ∧ w' = w := by
  go_enter Try.func31, Try.ntmps31
  go_wp2
  go_ret
  exact ⟨rfl, rfl⟩
end Go.Proofs.Ytmflopeedofkhaa
