/- Sorting a row of uint32 in place, first part: words for the row, Less, insertion, reversal. The kit's plain functions on arrays (Derived.Sort.Defs) say what becomes of the row. -/
import Derived.WalkKit
import Derived.ProofKit
import Derived.Lib.Hide
import Derived.RegionTactic
import Derived.Deep.Draws
import Derived.Deep.QuietTactic
import Derived.Deep.LoopGhost
import Derived.Deep.RegionWith
import Derived.Deep.DeepCutAuto
import Derived.BigQuiet
import Derived.BigCall
import Derived.BigGuard
import Derived.CellFam
import Derived.Sort.AssemblyPlain
import Derived.Sort.Grow
import Derived.Sort.AtCall
import Derived.Test.YtlgnpogmgpgdaaaProg
namespace Go.Proofs.Ytlgnpogmgpgdaaa
set_option linter.unusedSimpArgs false
set_option linter.unusedVariables false
set_option maxRecDepth 100000
open Go.RowKit

abbrev e32 : Nat → Value := fun x => Value.int .u32 (x : Nat)
def ltN (x y : Nat) : Bool := decide (x < y)
theorem ltN_swo : Sort.SWO ltN where
  irrefl x := by simp [ltN]
  trans x y z h1 h2 := by simp only [ltN, decide_eq_true_eq] at *; omega
  ntrans x y z h1 h2 := by simp only [ltN, decide_eq_false_iff_not] at *; omega

/-- the world w, n draws on, the row holding d -/
def rowW (w : World) (blk off n : Nat) (d : Array Nat) : World := Sort.putRow e32 (Sort.ahead w n) blk off d
section
variable {w wr : World} {blk off n : Nat} {d dk : Array Nat}
theorem rowW_start (h : Sort.Holds e32 w blk off d) : w = rowW w blk off 0 d := (Sort.putRow_self e32 w blk off d h).symm
theorem rowW_drewN (q : Nat) : (rowW w blk off n d).drewN q = rowW w blk off (n + q) d := by
  show Sort.ahead (Sort.putRow e32 (Sort.ahead w n) blk off d) q = Sort.putRow e32 (Sort.ahead w (n + q)) blk off d
  rw [Sort.putRow_ahead e32 w n, Sort.ahead_ahead, ← Sort.putRow_ahead]
theorem rowW_drew : (rowW w blk off n d).drew = rowW w blk off (n + 1) d := rowW_drewN 1
theorem rowW_holds (h : Sort.Holds e32 w blk off d) (hs : dk.size = d.size) : Sort.Holds e32 (rowW w blk off n dk) blk off dk :=
  Sort.holds_putRow e32 _ blk off d dk (Sort.holds_ahead e32 w n blk off d h) hs
theorem rowW_cell (h : Sort.Holds e32 w blk off d) (hs : dk.size = d.size) {t : Nat} (ht : t < d.size) : (rowW w blk off n dk).cell? ⟨blk, off + t, none⟩ = some (.int .u32 ((dk[t]! : Nat) : Int)) :=
  (rowW_holds (n := n) h hs t (by omega)).1
theorem rowW_frozen (h : Sort.Holds e32 w blk off d) (hs : dk.size = d.size) {t : Nat} (ht : t < d.size) : (rowW w blk off n dk).frozen? ⟨blk, off + t, none⟩ = false :=
  (rowW_holds (n := n) h hs t (by omega)).2
theorem rowW_rowW (m : Nat) (d' : Array Nat) (hs : d'.size = dk.size) : rowW (rowW w blk off n dk) blk off m d' = rowW w blk off (n + m) d' :=
  Sort.putRow_ahead_putRow e32 w n m blk off dk d' hs
theorem rowW_swap (hwr : wr = rowW w blk off n dk) (q : Nat) {i j : Nat} (hi : i < dk.size) (hj : j < dk.size) :
    ((wr.drewN q).setCell ⟨blk, off + i, none⟩ (.int .u32 ((dk[j]! : Nat) : Int))).setCell ⟨blk, off + j, none⟩ (.int .u32 ((dk[i]! : Nat) : Int)) = rowW w blk off (n + q) (Sort.swp dk i j) := by
  subst hwr
  rw [rowW_drewN]
  exact Sort.putRow_swp e32 _ blk off dk i j hi hj
theorem swp_size (d : Array Nat) (i j : Nat) : (Sort.swp d i j).size = d.size := by simp [Sort.swp]
end


set_option maxHeartbeats 1000000 in
theorem isNaN32_any (x : Nat) (w : World) : Calls Try.prog 101 #[.int .u32 (x : Nat)] w fun e w' => e = .returned (.bool false) ∧ w' = w := by
  go_enter Try.func101, Try.ntmps101
  go_wp2
  go_ret
  exact ⟨by simp, rfl⟩
set_option maxHeartbeats 1000000 in
theorem less32_any (x y : Nat) (w : World) : Calls Try.prog 133 #[.int .u32 (x : Nat), .int .u32 (y : Nat)] w fun e w' => e = .returned (.bool (ltN x y)) ∧ w' = w := by
  go_enter Try.func133, Try.ntmps133
  go_wp2_with (go_at_call 101; refine (isNaN32_any _ _).mono ?_; rintro e w' ⟨rfl, rfl⟩)
  go_ret
  exact ⟨by simp [ltN], rfl⟩

theorem ins_go (a j : Nat) (d : Array Nat) (hj : a < j) (hl : ltN d[j]! d[j - 1]! = true) : Sort.insInner ltN a j d = Sort.insInner ltN a (j - 1) (Sort.swp d j (j - 1)) := by
  obtain ⟨k, rfl⟩ : ∃ k, j = k + 1 := ⟨j - 1, by omega⟩
  rw [Sort.insInner]
  simp only [Nat.add_sub_cancel] at hl ⊢
  simp [hj, hl]
theorem ins_stop (a j : Nat) (d : Array Nat) (h : j ≤ a ∨ ltN d[j]! d[j - 1]! = false) : Sort.insInner ltN a j d = d := by
  cases j with
  | zero => rw [Sort.insInner]
  | succ k =>
    rw [Sort.insInner]
    simp only [Nat.add_sub_cancel] at h
    rcases h with h | h
    · simp [show ¬ k + 1 > a by omega]
    · simp [h]
theorem insO_go (a b i : Nat) (d : Array Nat) (h : i < b) : Sort.insOuter ltN a b i d = Sort.insOuter ltN a b (i + 1) (Sort.insInner ltN a i d) := by rw [Sort.insOuter, if_pos h]
def insI (w : World) (blk off a b : Nat) (d : Array Nat) (v : Value) (wr : World) : Prop :=
  ∃ (i n : Nat) (dk : Array Nat), v = .int .i64 i ∧ a < i ∧ i ≤ b + 1 ∧ dk.size = d.size ∧ wr = rowW w blk off n dk ∧ Sort.insOuter ltN a b i dk = Sort.insOuter ltN a b (a + 1) d
def insJ (w : World) (blk off a i : Nat) (d dk : Array Nat) (v : Value) (wr : World) : Prop :=
  ∃ (j n : Nat) (dj : Array Nat), v = .int .i64 j ∧ a ≤ j ∧ j ≤ i ∧ dj.size = d.size ∧ wr = rowW w blk off n dj ∧ Sort.insInner ltN a j dj = Sort.insInner ltN a i dk
set_option maxHeartbeats 1600000 in
set_option maxRecDepth 100000 in
theorem ins32_any (blk off cap a b : Nat) (d : Array Nat) (w : World) (hH : Sort.Holds e32 w blk off d) (hab : a ≤ b) (hb : b ≤ d.size) (hsz : d.size < 4611686018427387904) :
    Calls Try.prog 127 #[.slice (some ⟨blk, off, none⟩) d.size cap, .int .i64 a, .int .i64 b] w fun e w' =>
      e = .returned (.tuple #[]) ∧ ∃ n, w' = rowW w blk off n (Sort.insertionSort ltN d a b) := by
  have HH := Lib.hid hH
  clear hH
  go_enter Try.func127, Try.ntmps127
  go_wp2_with fail
  go_loopw [6] (fun v wr => insI w blk off a b d v wr) (fun v _ => b + 1 - (intOf v).toNat)
  case atStart => exact ⟨a + 1, 0, d, by go_num, by omega, by omega, rfl, rowW_start HH.out, rfl⟩
  case round =>
    obtain ⟨i, n, dk, rfl, hai, hib, hsk, rfl, hO⟩ := hrel
    have HO := Lib.hid hO
    clear hO
    by_cases hlt : i < b
    · go_wp2_with fail
      go_loopw [7] (fun v wr => insJ w blk off a i d dk v wr) (fun v _ => (intOf v).toNat)
      case atStart => exact ⟨i, n, dk, rfl, by omega, Nat.le_refl _, hsk, rfl, rfl⟩
      case round =>
        obtain ⟨j, m, dj, rfl, haj, hji, hsj, hw2, hI⟩ := hrel
        obtain ⟨G, hG⟩ : ∃ G : Nat → Nat, ∀ t, G t = dj[t]! := ⟨fun t => dj[t]!, fun _ => rfl⟩
        have hcw : ∀ t, t < d.size → wr.cell? ⟨blk, off + t, none⟩ = some (.int .u32 ((G t : Nat) : Int)) := fun t ht => by rw [hw2, hG]; exact rowW_cell HH.out hsj ht
        have hfw : ∀ t, t < d.size → wr.frozen? ⟨blk, off + t, none⟩ = false := fun t ht => by rw [hw2]; exact rowW_frozen HH.out hsj ht
        have HW := Lib.hid hw2
        have HG := Lib.hid hG
        clear hw2 hG
        have HI := Lib.hid hI
        clear hI
        have OUT := Lib.hid (fun (hs : j ≤ a ∨ ltN dj[j]! dj[j - 1]! = false) (q : Nat) => show insI w blk off a b d (.int .i64 ((i : Int) + 1)) (wr.drewN q) from
          ⟨i + 1, m + q, dj, by go_num, by omega, by omega, hsj, by rw [HW.out]; exact rowW_drewN _, by rw [← HO.out, insO_go a b i dk hlt, ← HI.out, ins_stop _ _ _ hs]⟩)
        by_cases hja : a < j
        · go_wp2_with fail
          go_quiet ((go_at_call 133; exact Calls.quiet_of_same (less32_any _ _ _)))
          go_wp2_with fail
          · have hl : ltN (G j) (G (j - 1)) = true := by assumption
            go_region
            all_goals go_wp2_with fail
            go_roundw
            case rel =>
              refine ⟨j - 1, m + (nq + 1), Sort.swp dj j (j - 1), by congr 1; omega, by omega, by omega, by rw [swp_size]; exact hsj, ?_, ?_⟩
              · rw [HG.out, HG.out]
                exact rowW_swap HW.out (nq + 1) (by omega) (by omega)
              · rw [← HI.out, ins_go a j dj hja (by rw [← HG.out, ← HG.out]; exact hl)]
            case measure => simp [intOf]; omega
          · have hl : ltN (G j) (G (j - 1)) = false := by assumption
            go_roundw
            case rel => exact OUT.out (Or.inr (by rw [← HG.out, ← HG.out]; exact hl)) nq
            case measure => simp [intOf]; omega
        · go_wp2_with fail
          go_quiet ((go_at_call 133; exact Calls.quiet_of_same (less32_any _ _ _)))
          go_wp2_with fail
          go_roundw
          case rel => exact OUT.out (Or.inl (by omega)) nq
          case measure => simp [intOf]; omega
    · go_wp2_with fail
      go_end0
      exact ⟨rfl, n, by unfold Sort.insertionSort; rw [← HO.out, Sort.insOuter, if_neg hlt]⟩

def revI (w : World) (blk off a b : Nat) (d : Array Nat) (k : Nat) (v1 v2 : Value) (wr : World) : Prop :=
  ∃ (i jn : Nat) (jz : Int) (dk : Array Nat) (n : Nat), v1 = .int .i64 i ∧ v2 = .int .i64 jz ∧ ((i : Int) < jz → jz = jn ∧ jn < d.size) ∧ (¬ (i : Int) < jz → ¬ i < jn) ∧ jn - i ≤ k ∧
    dk.size = d.size ∧ wr = rowW w blk off n dk ∧ Sort.reverseLoop i jn dk = Sort.reverseLoop a (b - 1) d
set_option maxHeartbeats 1600000 in
set_option maxRecDepth 100000 in
theorem rev32_any (blk off cap a b : Nat) (d : Array Nat) (w : World) (hH : Sort.Holds e32 w blk off d) (hab : a ≤ b) (hb : b ≤ d.size) (hsz : d.size < 4611686018427387904) :
    Calls Try.prog 131 #[.slice (some ⟨blk, off, none⟩) d.size cap, .int .i64 a, .int .i64 b] w fun e w' =>
      e = .returned (.tuple #[]) ∧ ∃ n, w' = rowW w blk off n (Sort.reverseRange d a b) := by
  have HH := Lib.hid hH
  clear hH
  go_enter Try.func131, Try.ntmps131
  go_wp2_with fail
  go_loopg [6, 7] (b - a) (fun k s6 s7 wr => revI w blk off a b d k s6 s7 wr)
  case atStart => exact ⟨a, b - 1, (b : Int) - 1, d, 0, rfl, rfl, fun h => ⟨by omega, by omega⟩, fun h => by omega, by omega, rfl, rowW_start HH.out, rfl⟩
  case round =>
    obtain ⟨i, jn, jz, dk, n, rfl, rfl, h1, h2, hk, hds, hwr, heq⟩ := hrel
    by_cases hlt : (i : Int) < jz
    · obtain ⟨rfl, hjn⟩ := h1 hlt
      have hij : i < jn := by omega
      rw [Sort.reverseLoop, if_pos hij] at heq
      have HEQ := Lib.hid heq
      obtain ⟨G, hG⟩ : ∃ G : Nat → Nat, ∀ t, G t = dk[t]! := ⟨fun t => dk[t]!, fun _ => rfl⟩
      have hcw : ∀ t, t < d.size → wr.cell? ⟨blk, off + t, none⟩ = some (.int .u32 ((G t : Nat) : Int)) := fun t ht => by rw [hwr, hG]; exact rowW_cell HH.out hds ht
      have hfw : ∀ t, t < d.size → wr.frozen? ⟨blk, off + t, none⟩ = false := fun t ht => by rw [hwr]; exact rowW_frozen HH.out hds ht
      have HW := Lib.hid hwr
      have HG := Lib.hid hG
      clear hwr hG
      clear heq h1 h2
      go_wp2_with fail
      go_region
      all_goals go_wp2_with fail
      go_roundg (jn - 1 - (i + 1))
      case measure => omega
      case rel =>
        refine ⟨i + 1, jn - 1, (jn : Int) - 1, Sort.swp dk i jn, n + 1, by simp, rfl, fun h => ⟨by omega, by omega⟩, fun h => by omega, Nat.le_refl _, by rw [swp_size]; exact hds, ?_, HEQ.out⟩
        rw [HG.out, HG.out]
        exact rowW_swap HW.out 1 (by omega) (by omega)
    · have hnot := h2 hlt
      have HEQ := Lib.hid heq
      clear heq h1 h2
      go_wp2_with fail
      go_end0
      refine ⟨rfl, n, ?_⟩
      have heq := HEQ.out
      rw [Sort.reverseLoop, if_neg hnot] at heq
      rw [Sort.reverseRange, ← heq]
end Go.Proofs.Ytlgnpogmgpgdaaa
