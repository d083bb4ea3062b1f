/- Texts merged into one: Sort1, U32s, MapWalk, Sort2, Sort3. -/
import Derived.WalkKit
import Derived.ProofKit
import Derived.Lib.Hide
import Derived.RegionTactic
import Derived.Deep.Draws
import Derived.Deep.QuietTactic
import Derived.Deep.LoopGhost
import Derived.Deep.RegionWith
import Derived.Deep.DeepCutAuto
import Derived.BigQuiet
import Derived.BigCall
import Derived.BigGuard
import Derived.CellFam
import Derived.Sort.AssemblyPlain
import Derived.Sort.Grow
import Derived.Sort.AtCall
import Derived.Test.YtcklfffeimnfeaaGreatProg
import Derived.Test.YtcklfffeimnfeaaGreatBx01
set_option maxRecDepth 100000
set_option maxHeartbeats 12800000
set_option linter.unusedSimpArgs false
set_option linter.unusedVariables false
namespace Go.Proofs.YtcklfffeimnfeaaGreat
open Go.RowKit

abbrev e32 : Nat → Value := fun x => Value.int .u32 (x : Nat)
def ltN (x y : Nat) : Bool := decide (x < y)
theorem ltN_swo : Sort.SWO ltN where
  irrefl x := by simp [ltN]
  trans x y z h1 h2 := by simp only [ltN, decide_eq_true_eq] at *; omega
  ntrans x y z h1 h2 := by simp only [ltN, decide_eq_false_iff_not] at *; omega

/-- the world w, n draws on, the row holding d -/
def rowW (w : World) (blk off n : Nat) (d : Array Nat) : World := Sort.putRow e32 (Sort.ahead w n) blk off d
section
variable {w wr : World} {blk off n : Nat} {d dk : Array Nat}
theorem rowW_start (h : Sort.Holds e32 w blk off d) : w = rowW w blk off 0 d := (Sort.putRow_self e32 w blk off d h).symm
theorem rowW_drewN (q : Nat) : (rowW w blk off n d).drewN q = rowW w blk off (n + q) d := by
  show Sort.ahead (Sort.putRow e32 (Sort.ahead w n) blk off d) q = Sort.putRow e32 (Sort.ahead w (n + q)) blk off d
  rw [Sort.putRow_ahead e32 w n, Sort.ahead_ahead, ← Sort.putRow_ahead]
theorem rowW_holds (h : Sort.Holds e32 w blk off d) (hs : dk.size = d.size) : Sort.Holds e32 (rowW w blk off n dk) blk off dk :=
  Sort.holds_putRow e32 _ blk off d dk (Sort.holds_ahead e32 w n blk off d h) hs
theorem rowW_cell (h : Sort.Holds e32 w blk off d) (hs : dk.size = d.size) {t : Nat} (ht : t < d.size) : (rowW w blk off n dk).cell? ⟨blk, off + t, none⟩ = some (.int .u32 ((dk[t]! : Nat) : Int)) :=
  (rowW_holds (n := n) h hs t (by omega)).1
theorem rowW_frozen (h : Sort.Holds e32 w blk off d) (hs : dk.size = d.size) {t : Nat} (ht : t < d.size) : (rowW w blk off n dk).frozen? ⟨blk, off + t, none⟩ = false :=
  (rowW_holds (n := n) h hs t (by omega)).2
theorem rowW_rowW (m : Nat) (d' : Array Nat) (hs : d'.size = dk.size) : rowW (rowW w blk off n dk) blk off m d' = rowW w blk off (n + m) d' :=
  Sort.putRow_ahead_putRow e32 w n m blk off dk d' hs
theorem rowW_swap (hwr : wr = rowW w blk off n dk) (q : Nat) {i j : Nat} (hi : i < dk.size) (hj : j < dk.size) :
    ((wr.drewN q).setCell ⟨blk, off + i, none⟩ (.int .u32 ((dk[j]! : Nat) : Int))).setCell ⟨blk, off + j, none⟩ (.int .u32 ((dk[i]! : Nat) : Int)) = rowW w blk off (n + q) (Sort.swp dk i j) := by
  subst hwr
  rw [rowW_drewN]
  exact Sort.putRow_swp e32 _ blk off dk i j hi hj
theorem swp_size (d : Array Nat) (i j : Nat) : (Sort.swp d i j).size = d.size := by simp [Sort.swp]
end


theorem isNaN32_any (x : Nat) (w : World) : Calls Tryz.prog 123 #[.int .u32 (x : Nat)] w fun e w' => e = .returned (.bool false) ∧ w' = w := by
  go_enter Tryz.func123, Tryz.ntmps123
  go_wp2
  go_ret
  exact ⟨by simp, rfl⟩
theorem less32_any (x y : Nat) (w : World) : Calls Tryz.prog 164 #[.int .u32 (x : Nat), .int .u32 (y : Nat)] w fun e w' => e = .returned (.bool (ltN x y)) ∧ w' = w := by
  go_enter Tryz.func164, Tryz.ntmps164
  go_wp2_with (go_at_call 123; refine (isNaN32_any _ _).mono ?_; rintro e w' ⟨rfl, rfl⟩)
  go_ret
  exact ⟨by simp [ltN], rfl⟩

theorem ins_go (a j : Nat) (d : Array Nat) (hj : a < j) (hl : ltN d[j]! d[j - 1]! = true) : Sort.insInner ltN a j d = Sort.insInner ltN a (j - 1) (Sort.swp d j (j - 1)) := by
  obtain ⟨k, rfl⟩ : ∃ k, j = k + 1 := ⟨j - 1, by omega⟩
  rw [Sort.insInner]
  simp only [Nat.add_sub_cancel] at hl ⊢
  simp [hj, hl]
theorem ins_stop (a j : Nat) (d : Array Nat) (h : j ≤ a ∨ ltN d[j]! d[j - 1]! = false) : Sort.insInner ltN a j d = d := by
  cases j with
  | zero => rw [Sort.insInner]
  | succ k =>
    rw [Sort.insInner]
    simp only [Nat.add_sub_cancel] at h
    rcases h with h | h
    · simp [show ¬ k + 1 > a by omega]
    · simp [h]
theorem insO_go (a b i : Nat) (d : Array Nat) (h : i < b) : Sort.insOuter ltN a b i d = Sort.insOuter ltN a b (i + 1) (Sort.insInner ltN a i d) := by rw [Sort.insOuter, if_pos h]
def insI (w : World) (blk off a b : Nat) (d : Array Nat) (v : Value) (wr : World) : Prop :=
  ∃ (i n : Nat) (dk : Array Nat), v = .int .i64 i ∧ a < i ∧ i ≤ b + 1 ∧ dk.size = d.size ∧ wr = rowW w blk off n dk ∧ Sort.insOuter ltN a b i dk = Sort.insOuter ltN a b (a + 1) d
def insJ (w : World) (blk off a i : Nat) (d dk : Array Nat) (v : Value) (wr : World) : Prop :=
  ∃ (j n : Nat) (dj : Array Nat), v = .int .i64 j ∧ a ≤ j ∧ j ≤ i ∧ dj.size = d.size ∧ wr = rowW w blk off n dj ∧ Sort.insInner ltN a j dj = Sort.insInner ltN a i dk
theorem ins32_any (blk off cap a b : Nat) (d : Array Nat) (w : World) (hH : Sort.Holds e32 w blk off d) (hab : a ≤ b) (hb : b ≤ d.size) (hsz : d.size < 4611686018427387904) :
    Calls Tryz.prog 158 #[.slice (some ⟨blk, off, none⟩) d.size cap, .int .i64 a, .int .i64 b] w fun e w' =>
      e = .returned (.tuple #[]) ∧ ∃ n, w' = rowW w blk off n (Sort.insertionSort ltN d a b) := by
  have HH := Lib.hid hH
  clear hH
  go_enter Tryz.func158, Tryz.ntmps158
  go_wp2_with fail
  go_loopw [6] (fun v wr => insI w blk off a b d v wr) (fun v _ => b + 1 - (intOf v).toNat)
  case atStart => exact ⟨a + 1, 0, d, by go_num, by omega, by omega, rfl, rowW_start HH.out, rfl⟩
  case round =>
    obtain ⟨i, n, dk, rfl, hai, hib, hsk, rfl, hO⟩ := hrel
    have HO := Lib.hid hO
    clear hO
    by_cases hlt : i < b
    · go_wp2_with fail
      go_loopw [7] (fun v wr => insJ w blk off a i d dk v wr) (fun v _ => (intOf v).toNat)
      case atStart => exact ⟨i, n, dk, rfl, by omega, Nat.le_refl _, hsk, rfl, rfl⟩
      case round =>
        obtain ⟨j, m, dj, rfl, haj, hji, hsj, hw2, hI⟩ := hrel
        obtain ⟨G, hG⟩ : ∃ G : Nat → Nat, ∀ t, G t = dj[t]! := ⟨fun t => dj[t]!, fun _ => rfl⟩
        have hcw : ∀ t, t < d.size → wr.cell? ⟨blk, off + t, none⟩ = some (.int .u32 ((G t : Nat) : Int)) := fun t ht => by rw [hw2, hG]; exact rowW_cell HH.out hsj ht
        have hfw : ∀ t, t < d.size → wr.frozen? ⟨blk, off + t, none⟩ = false := fun t ht => by rw [hw2]; exact rowW_frozen HH.out hsj ht
        have HW := Lib.hid hw2
        have HG := Lib.hid hG
        clear hw2 hG
        have HI := Lib.hid hI
        clear hI
        have OUT := Lib.hid (fun (hs : j ≤ a ∨ ltN dj[j]! dj[j - 1]! = false) (q : Nat) => show insI w blk off a b d (.int .i64 ((i : Int) + 1)) (wr.drewN q) from
          ⟨i + 1, m + q, dj, by go_num, by omega, by omega, hsj, by rw [HW.out]; exact rowW_drewN _, by rw [← HO.out, insO_go a b i dk hlt, ← HI.out, ins_stop _ _ _ hs]⟩)
        by_cases hja : a < j
        · go_wp2_with fail
          go_quiet ((go_at_call 164; exact Calls.quiet_of_same (less32_any _ _ _)))
          go_wp2_with fail
          · have hl : ltN (G j) (G (j - 1)) = true := by assumption
            go_region
            all_goals go_wp2_with fail
            go_roundw
            case rel =>
              refine ⟨j - 1, m + (nq + 1), Sort.swp dj j (j - 1), by congr 1; omega, by omega, by omega, by rw [swp_size]; exact hsj, ?_, ?_⟩
              · rw [HG.out, HG.out]
                exact rowW_swap HW.out (nq + 1) (by omega) (by omega)
              · rw [← HI.out, ins_go a j dj hja (by rw [← HG.out, ← HG.out]; exact hl)]
            case measure => simp [intOf]; omega
          · have hl : ltN (G j) (G (j - 1)) = false := by assumption
            go_roundw
            case rel => exact OUT.out (Or.inr (by rw [← HG.out, ← HG.out]; exact hl)) nq
            case measure => simp [intOf]; omega
        · go_wp2_with fail
          go_quiet ((go_at_call 164; exact Calls.quiet_of_same (less32_any _ _ _)))
          go_wp2_with fail
          go_roundw
          case rel => exact OUT.out (Or.inl (by omega)) nq
          case measure => simp [intOf]; omega
    · go_wp2_with fail
      go_end0
      exact ⟨rfl, n, by unfold Sort.insertionSort; rw [← HO.out, Sort.insOuter, if_neg hlt]⟩

def revI (w : World) (blk off a b : Nat) (d : Array Nat) (k : Nat) (v1 v2 : Value) (wr : World) : Prop :=
  ∃ (i jn : Nat) (jz : Int) (dk : Array Nat) (n : Nat), v1 = .int .i64 i ∧ v2 = .int .i64 jz ∧ ((i : Int) < jz → jz = jn ∧ jn < d.size) ∧ (¬ (i : Int) < jz → ¬ i < jn) ∧ jn - i ≤ k ∧
    dk.size = d.size ∧ wr = rowW w blk off n dk ∧ Sort.reverseLoop i jn dk = Sort.reverseLoop a (b - 1) d
theorem rev32_any (blk off cap a b : Nat) (d : Array Nat) (w : World) (hH : Sort.Holds e32 w blk off d) (hab : a ≤ b) (hb : b ≤ d.size) (hsz : d.size < 4611686018427387904) :
    Calls Tryz.prog 162 #[.slice (some ⟨blk, off, none⟩) d.size cap, .int .i64 a, .int .i64 b] w fun e w' =>
      e = .returned (.tuple #[]) ∧ ∃ n, w' = rowW w blk off n (Sort.reverseRange d a b) := by
  have HH := Lib.hid hH
  clear hH
  go_enter Tryz.func162, Tryz.ntmps162
  go_wp2_with fail
  go_loopg [6, 7] (b - a) (fun k s6 s7 wr => revI w blk off a b d k s6 s7 wr)
  case atStart => exact ⟨a, b - 1, (b : Int) - 1, d, 0, rfl, rfl, fun h => ⟨by omega, by omega⟩, fun h => by omega, by omega, rfl, rowW_start HH.out, rfl⟩
  case round =>
    obtain ⟨i, jn, jz, dk, n, rfl, rfl, h1, h2, hk, hds, hwr, heq⟩ := hrel
    by_cases hlt : (i : Int) < jz
    · obtain ⟨rfl, hjn⟩ := h1 hlt
      have hij : i < jn := by omega
      rw [Sort.reverseLoop, if_pos hij] at heq
      have HEQ := Lib.hid heq
      obtain ⟨G, hG⟩ : ∃ G : Nat → Nat, ∀ t, G t = dk[t]! := ⟨fun t => dk[t]!, fun _ => rfl⟩
      have hcw : ∀ t, t < d.size → wr.cell? ⟨blk, off + t, none⟩ = some (.int .u32 ((G t : Nat) : Int)) := fun t ht => by rw [hwr, hG]; exact rowW_cell HH.out hds ht
      have hfw : ∀ t, t < d.size → wr.frozen? ⟨blk, off + t, none⟩ = false := fun t ht => by rw [hwr]; exact rowW_frozen HH.out hds ht
      have HW := Lib.hid hwr
      have HG := Lib.hid hG
      clear hwr hG
      clear heq h1 h2
      go_wp2_with fail
      go_region
      all_goals go_wp2_with fail
      go_roundg (jn - 1 - (i + 1))
      case measure => omega
      case rel =>
        refine ⟨i + 1, jn - 1, (jn : Int) - 1, Sort.swp dk i jn, n + 1, by simp, rfl, fun h => ⟨by omega, by omega⟩, fun h => by omega, Nat.le_refl _, by rw [swp_size]; exact hds, ?_, HEQ.out⟩
        rw [HG.out, HG.out]
        exact rowW_swap HW.out 1 (by omega) (by omega)
    · have hnot := h2 hlt
      have HEQ := Lib.hid heq
      clear heq h1 h2
      go_wp2_with fail
      go_end0
      refine ⟨rfl, n, ?_⟩
      have heq := HEQ.out
      rw [Sort.reverseLoop, if_neg hnot] at heq
      rw [Sort.reverseRange, ← heq]
end Go.Proofs.YtcklfffeimnfeaaGreat

namespace Go.Proofs.YtcklfffeimnfeaaGreat
open Go.RowKit

def u32s (l : List Nat) : List Value := l.map fun x => .int .u32 (x : Nat)
theorem u32s_one (l : List Nat) : ∀ u ∈ u32s l, u.oneCell' = true := by
  intro u hu
  obtain ⟨x, _, rfl⟩ := List.mem_map.1 hu
  rfl
theorem own_holds {w : World} {b cap : Nat} {g : Option Nat} {e : TypeId} {l : List Nat} (h : Own w (some ⟨b, 0, none⟩) cap g e 1 l.length (u32s l)) : Sort.Holds e32 w b 0 l.toArray := fun i hi => by
  have hi' : i < l.length := by simpa using hi
  refine ⟨?_, by rw [Nat.zero_add]; exact h.frozen i⟩
  rw [Nat.zero_add, h.cell i (by omega)]
  simp only [u32s, List.getElem?_map, List.getElem?_eq_getElem hi', Option.map_some]
  rw [getElem!_pos l.toArray i hi]
  rfl
theorem u32sElem : Elem Tryz.prog 25 24 1 4 (.int .u32 0) := Elem.mk' Tryz.underlying25 (by kernel_rfl) rfl (by decide)
theorem app_blocks {w W W' : World} {g g' : Option Nat} (hg : ∀ k, g = some k → w.heap.size ≤ k) (hB : Below w.heap.size w W) (hg' : g' = g ∨ g' = some W.heap.size) (hon : Only (fun k => g = some k) W W') : (∀ k, g' = some k → w.heap.size ≤ k) ∧ Below w.heap.size w W' := by
  refine ⟨fun k h => ?_, hB.trans (hon.below hB.size (fun k hk e => by have := hg k e; omega))⟩
  rcases hg' with rfl | rfl
  · exact hg k h
  · cases h; exact hB.size
end Go.Proofs.YtcklfffeimnfeaaGreat

namespace Go.Proofs.YtcklfffeimnfeaaGreat
open Go.RowKit

section
variable {P : Program} {ops : Array Oper} {rest : List Oper} {o : Oper} {a : Act} {Q : Exit → Act → World → Prop} {w : World}
theorem wpList_range_is (hg : o.guard = none) (m : Operand) (t : TypeId) (hop : o.op = Op.range t m) {k e : TypeId} (ht : P.underlying t = some (.map k e)) {b clk : Nat} {es : List MapEntry} (hm : a.eval m = .map (some b)) (h : MapIs w b es clk)
    (hK : wpList P ops Q rest (a.put o.dst (.pointer (some ⟨w.heap.size, 0, none⟩))) (w.alloc (.mapIter (some b) clk #[] clk))) : wpList P ops Q (o :: rest) a w := by
  refine wpList_plain hg fun K' hK' => ?_
  have hrun := run_range_is (P := P) ht h
  unfold Oper.wp
  simp [execOp, hop, hm, hrun, Result.andThen]
  exact hK' _ _ hK
theorem wpList_next_is (hg : o.guard = none) (it : Operand) (hop : o.op = Op.next it false) {r b clk : Nat} {seen : Array Nat} {es : List MapEntry} (hit : a.eval it = .pointer (some ⟨r, 0, none⟩)) (hr : IterIs w r b clk seen) (hb : MapIs w b es clk) (hold : ∀ x ∈ es, x.born < clk)
    (hDone : (leftOf es.toArray seen).size = 0 → wpList P ops Q rest (a.put o.dst (.tuple #[.bool false])) w)
    (hMore : ∀ (e : MapEntry) (w' : World), e ∈ (leftOf es.toArray seen).toList → IterIs w' r b clk (seen.push e.born) → Only (fun k => k = r) w w' → w'.heap.size = w.heap.size → wpList P ops Q rest (a.put o.dst (.tuple #[.bool true, e.key, e.val])) w') : wpList P ops Q (o :: rest) a w := by
  refine wpList_plain hg fun K' hK' => ?_
  unfold Oper.wp
  rcases run_next_is (P := P) hr hb hold o.type with ⟨h0, hrun⟩ | ⟨e, he, w', hrun, r1, r2, r3⟩
  · simp [execOp, hop, hit, hrun, Result.andThen]
    exact hK' _ _ (hDone h0)
  · simp [execOp, hop, hit, hrun, Result.andThen]
    exact hK' _ _ (hMore e w' he r1 r2 r3)
theorem wpList_entry_is (hg : o.guard = none) (it : Operand) (hop : o.op = Op.entry it) {r b clk : Nat} {seen : Array Nat} {es : List MapEntry} {e : MapEntry} (hit : a.eval it = .pointer (some ⟨r, 0, none⟩)) (hr : IterIs w r b clk (seen.push e.born)) (hb : MapIs w b es clk) (he : e ∈ es) (hn : (es.map (·.born)).Nodup)
    (hK : wpList P ops Q rest (a.put o.dst (.tuple #[e.key, e.val])) w) : wpList P ops Q (o :: rest) a w := by
  refine wpList_plain hg fun K' hK' => ?_
  have hrun := run_entry_is (P := P) hr hb he hn
  unfold Oper.wp
  simp [execOp, hop, hit, hrun, Result.andThen]
  exact hK' _ _ hK
end
theorem born_one : ∀ {es : List MapEntry}, (es.map (·.born)).Nodup → ∀ {x y : MapEntry}, x ∈ es → y ∈ es → x.born = y.born → x = y
  | [], _, _, _, h, _, _ => by cases h
  | e :: es, hn, x, y, hx, hy, h => by
    rw [List.map_cons, List.nodup_cons] at hn
    rcases List.mem_cons.1 hx with hx1 | hx1
    · rcases List.mem_cons.1 hy with hy1 | hy1
      · exact hx1.trans hy1.symm
      · exact absurd (List.mem_map.2 ⟨y, hy1, by rw [← h, hx1]⟩) hn.1
    · rcases List.mem_cons.1 hy with hy1 | hy1
      · exact absurd (List.mem_map.2 ⟨x, hx1, by rw [h, hy1]⟩) hn.1
      · exact born_one hn.2 hx1 hy1 h
end Go.Proofs.YtcklfffeimnfeaaGreat

namespace Go.Proofs.YtcklfffeimnfeaaGreat
open Go.RowKit

theorem sd_end {hi F root : Nat} (d : Array Nat) (h : hi ≤ 2 * root + 1) : Sort.siftDown ltN hi F root d = d := by rw [Sort.siftDown, dif_pos h]
theorem sd_r0 {hi F root : Nat} (d : Array Nat) (h1 : 2 * root + 2 < hi) (h2 : ltN d[F + (2 * root + 1)]! d[F + (2 * root + 2)]! = true) (h3 : ltN d[F + root]! d[F + (2 * root + 2)]! = false) : Sort.siftDown ltN hi F root d = d := by
  rw [Sort.siftDown, dif_neg (by omega), show F + (2 * root + 1) + 1 = F + (2 * root + 2) by omega, h2, h3]
  simp [show 2 * root + 1 + 1 < hi by omega]
theorem sd_r1 {hi F root : Nat} (d : Array Nat) (h1 : 2 * root + 2 < hi) (h2 : ltN d[F + (2 * root + 1)]! d[F + (2 * root + 2)]! = true) (h3 : ltN d[F + root]! d[F + (2 * root + 2)]! = true) :
    Sort.siftDown ltN hi F root d = Sort.siftDown ltN hi F (2 * root + 2) (Sort.swp d (F + root) (F + (2 * root + 2))) := by
  rw [Sort.siftDown, dif_neg (by omega), show F + (2 * root + 1) + 1 = F + (2 * root + 2) by omega, h2, h3]
  simp [show 2 * root + 1 + 1 < hi by omega]
theorem sd_l0 {hi F root : Nat} (d : Array Nat) (h0 : 2 * root + 1 < hi) (h1 : 2 * root + 2 < hi → ltN d[F + (2 * root + 1)]! d[F + (2 * root + 2)]! = false) (h3 : ltN d[F + root]! d[F + (2 * root + 1)]! = false) : Sort.siftDown ltN hi F root d = d := by
  rw [Sort.siftDown, dif_neg (by omega), show F + (2 * root + 1) + 1 = F + (2 * root + 2) by omega, h3]
  by_cases h : 2 * root + 2 < hi
  · simp [h1 h]
  · simp [show ¬ 2 * root + 1 + 1 < hi by omega]
theorem sd_l1 {hi F root : Nat} (d : Array Nat) (h0 : 2 * root + 1 < hi) (h1 : 2 * root + 2 < hi → ltN d[F + (2 * root + 1)]! d[F + (2 * root + 2)]! = false) (h3 : ltN d[F + root]! d[F + (2 * root + 1)]! = true) :
    Sort.siftDown ltN hi F root d = Sort.siftDown ltN hi F (2 * root + 1) (Sort.swp d (F + root) (F + (2 * root + 1))) := by
  rw [Sort.siftDown, dif_neg (by omega), show F + (2 * root + 1) + 1 = F + (2 * root + 2) by omega, h3]
  by_cases h : 2 * root + 2 < hi
  · simp [h1 h]
  · simp [show ¬ 2 * root + 1 + 1 < hi by omega]
theorem sd_size (hi F : Nat) : ∀ (n root : Nat) (d : Array Nat), hi - root ≤ n → (Sort.siftDown ltN hi F root d).size = d.size := by
  intro n
  induction n with
  | zero => intro root d h; rw [Sort.siftDown, dif_pos (by omega)]
  | succ n ih =>
    intro root d h
    rw [Sort.siftDown]
    split
    · rfl
    · split
      · split
        · rfl
        · split
          · rw [ih _ _ (by omega), swp_size]
          · rfl
      · split
        · rfl
        · rw [ih _ _ (by omega), swp_size]

def sdI (w : World) (blk off lo hi first : Nat) (d : Array Nat) (k : Nat) (v : Value) (wr : World) : Prop :=
  ∃ (root : Nat) (dk : Array Nat) (n : Nat), v = .int .i64 root ∧ root ≤ hi ∧ hi - root ≤ k ∧ dk.size = d.size ∧ wr = rowW w blk off n dk ∧ Sort.siftDown ltN hi first root dk = Sort.siftDown ltN hi first lo d
theorem sift32_any (blk off cap lo hi first : Nat) (d : Array Nat) (w : World) (hH : Sort.Holds e32 w blk off d) (hlo : lo ≤ hi) (hb : first + hi ≤ d.size) (hsz : d.size < 4611686018427387904) :
    Calls Tryz.prog 169 #[.slice (some ⟨blk, off, none⟩) d.size cap, .int .i64 lo, .int .i64 hi, .int .i64 first] w fun e w' =>
      e = .returned (.tuple #[]) ∧ ∃ n, w' = rowW w blk off n (Sort.siftDown ltN hi first lo d) := by
  have HH := Lib.hid hH
  clear hH
  go_enter Tryz.func169, Tryz.ntmps169
  go_wp2_with fail
  go_loopg [8] (hi - lo) (fun k s8 wr => sdI w blk off lo hi first d k s8 wr)
  case atStart => exact ⟨lo, d, 0, rfl, hlo, Nat.le_refl _, rfl, rowW_start HH.out, rfl⟩
  case round =>
    obtain ⟨root, dk, n, rfl, hr, hk, hds, hwr, heq⟩ := hrel
    have HQ := Lib.hid heq
    clear heq
    by_cases h0 : hi ≤ 2 * root + 1
    · have h0z : decide ((hi : Int) ≤ 2 * (root : Int) + 1) = true := decide_eq_true (by omega)
      have HW := Lib.hid hwr
      clear hwr
      go_wp2_with fail
      (try simp only [Exit.inBlock, Exit.then])
      go_end0
      refine ⟨rfl, n, ?_⟩
      rw [HW.out, ← HQ.out, sd_end dk h0]
    · have h0z : decide ((hi : Int) ≤ 2 * (root : Int) + 1) = false := decide_eq_false (by omega)
      obtain ⟨G, hG⟩ : ∃ G : Nat → Nat, ∀ t, G t = dk[t]! := ⟨fun t => dk[t]!, fun _ => rfl⟩
      have hcw : ∀ t, t < d.size → wr.cell? ⟨blk, off + t, none⟩ = some (.int .u32 ((G t : Nat) : Int)) := fun t ht => by rw [hwr, hG]; exact rowW_cell HH.out hds ht
      have hfw : ∀ t, t < d.size → wr.frozen? ⟨blk, off + t, none⟩ = false := fun t ht => by rw [hwr]; exact rowW_frozen HH.out hds ht
      have HW := Lib.hid hwr
      have HG := Lib.hid hG
      clear hwr hG
      by_cases h1 : 2 * root + 2 < hi
      · have h1z : decide (2 * (root : Int) + 1 + 1 < (hi : Int)) = true := decide_eq_true (by omega)
        go_wp2_with fail
        go_quiet ((go_at_call 164; exact Calls.quiet_of_same (less32_any _ _ _)))
        go_wp2_with fail
        · have hL : ltN (G (first + 2 * root + 1)) (G (first + 2 * root + 2)) = true := by assumption
          have hL2 : ltN dk[first + (2 * root + 1)]! dk[first + (2 * root + 2)]! = true := by rw [← HG.out, ← HG.out]; exact hL
          clear hL
          obtain ⟨wq, hwq⟩ : ∃ wq, wq = wr.drewN nq := ⟨_, rfl⟩
          have hwq2 : wq = rowW w blk off (n + nq) dk := by rw [hwq, HW.out]; exact rowW_drewN _
          have hcq : ∀ t, t < d.size → wq.cell? ⟨blk, off + t, none⟩ = some (.int .u32 ((G t : Nat) : Int)) := fun t ht => by rw [hwq]; exact hcw t ht
          have hfq : ∀ t, t < d.size → wq.frozen? ⟨blk, off + t, none⟩ = false := fun t ht => by rw [hwq]; exact hfw t ht
          rw [← hwq]
          clear hcw hfw hwq HW
          obtain ⟨m, hm⟩ : ∃ m, m = n + nq := ⟨_, rfl⟩
          rw [← hm] at hwq2
          have HW := Lib.hid hwq2
          clear hm hwq2 nq
          go_quiet ((go_at_call 164; exact Calls.quiet_of_same (less32_any _ _ _)))
          go_wp2_with fail
          · have hS : ltN (G (first + root)) (G (first + 2 * root + 2)) = false := by
              have h : (!ltN (G (first + root)) (G (first + 2 * root + 2))) = true := by assumption
              rw [Bool.not_eq_true'] at h
              exact h
            rw [HG.out, HG.out] at hS
            (try simp only [Exit.inBlock, Exit.then])
            refine bodyPost_ret (results_none rfl _ _ _) rfl ?_
            refine ⟨rfl, m + nq, ?_⟩
            rw [HW.out, rowW_drewN, ← HQ.out, sd_r0 dk h1 hL2 hS]
          · have hS : ltN (G (first + root)) (G (first + 2 * root + 2)) = true := by
              have h : (!ltN (G (first + root)) (G (first + 2 * root + 2))) = false := by assumption
              rw [Bool.not_eq_false'] at h
              exact h
            rw [HG.out, HG.out] at hS
            go_region
            all_goals go_wp2_with fail
            go_roundg (hi - (2 * root + 2))
            case measure => omega
            case rel =>
              refine ⟨2 * root + 2, Sort.swp dk (first + root) (first + (2 * root + 2)), m + (nq + 1), by simp <;> omega, by omega, Nat.le_refl _, by rw [swp_size]; exact hds, ?_, ?_⟩
              · rw [HG.out, HG.out]
                exact rowW_swap HW.out (nq + 1) (by omega) (by omega)
              · rw [← HQ.out, sd_r1 dk h1 hL2 hS]
        · have hL : ltN (G (first + 2 * root + 1)) (G (first + 2 * root + 2)) = false := by assumption
          have hL2 : ltN dk[first + (2 * root + 1)]! dk[first + (2 * root + 2)]! = false := by rw [← HG.out, ← HG.out]; exact hL
          clear hL
          obtain ⟨wq, hwq⟩ : ∃ wq, wq = wr.drewN nq := ⟨_, rfl⟩
          have hwq2 : wq = rowW w blk off (n + nq) dk := by rw [hwq, HW.out]; exact rowW_drewN _
          have hcq : ∀ t, t < d.size → wq.cell? ⟨blk, off + t, none⟩ = some (.int .u32 ((G t : Nat) : Int)) := fun t ht => by rw [hwq]; exact hcw t ht
          have hfq : ∀ t, t < d.size → wq.frozen? ⟨blk, off + t, none⟩ = false := fun t ht => by rw [hwq]; exact hfw t ht
          rw [← hwq]
          clear hcw hfw hwq HW
          obtain ⟨m, hm⟩ : ∃ m, m = n + nq := ⟨_, rfl⟩
          rw [← hm] at hwq2
          have HW := Lib.hid hwq2
          clear hm hwq2 nq
          go_quiet ((go_at_call 164; exact Calls.quiet_of_same (less32_any _ _ _)))
          go_wp2_with fail
          · have hS : ltN (G (first + root)) (G (first + 2 * root + 1)) = false := by
              have h : (!ltN (G (first + root)) (G (first + 2 * root + 1))) = true := by assumption
              rw [Bool.not_eq_true'] at h
              exact h
            rw [HG.out, HG.out] at hS
            (try simp only [Exit.inBlock, Exit.then])
            refine bodyPost_ret (results_none rfl _ _ _) rfl ?_
            refine ⟨rfl, m + nq, ?_⟩
            rw [HW.out, rowW_drewN, ← HQ.out, sd_l0 dk (by omega) (fun _ => hL2) hS]
          · have hS : ltN (G (first + root)) (G (first + 2 * root + 1)) = true := by
              have h : (!ltN (G (first + root)) (G (first + 2 * root + 1))) = false := by assumption
              rw [Bool.not_eq_false'] at h
              exact h
            rw [HG.out, HG.out] at hS
            go_region
            all_goals go_wp2_with fail
            go_roundg (hi - (2 * root + 1))
            case measure => omega
            case rel =>
              refine ⟨2 * root + 1, Sort.swp dk (first + root) (first + (2 * root + 1)), m + (nq + 1), by simp <;> omega, by omega, Nat.le_refl _, by rw [swp_size]; exact hds, ?_, ?_⟩
              · rw [HG.out, HG.out]
                exact rowW_swap HW.out (nq + 1) (by omega) (by omega)
              · rw [← HQ.out, sd_l1 dk (by omega) (fun _ => hL2) hS]
      · have h1z : decide (2 * (root : Int) + 1 + 1 < (hi : Int)) = false := decide_eq_false (by omega)
        go_wp2_with fail
        go_quiet ((go_at_call 164; exact Calls.quiet_of_same (less32_any _ _ _)))
        go_wp2_with fail
        obtain ⟨wq, hwq⟩ : ∃ wq, wq = wr.drewN nq := ⟨_, rfl⟩
        have hwq2 : wq = rowW w blk off (n + nq) dk := by rw [hwq, HW.out]; exact rowW_drewN _
        have hcq : ∀ t, t < d.size → wq.cell? ⟨blk, off + t, none⟩ = some (.int .u32 ((G t : Nat) : Int)) := fun t ht => by rw [hwq]; exact hcw t ht
        have hfq : ∀ t, t < d.size → wq.frozen? ⟨blk, off + t, none⟩ = false := fun t ht => by rw [hwq]; exact hfw t ht
        rw [← hwq]
        clear hcw hfw hwq HW
        obtain ⟨m, hm⟩ : ∃ m, m = n + nq := ⟨_, rfl⟩
        rw [← hm] at hwq2
        have HW := Lib.hid hwq2
        clear hm hwq2 nq
        go_quiet ((go_at_call 164; exact Calls.quiet_of_same (less32_any _ _ _)))
        go_wp2_with fail
        · have hS : ltN (G (first + root)) (G (first + 2 * root + 1)) = false := by
            have h : (!ltN (G (first + root)) (G (first + 2 * root + 1))) = true := by assumption
            rw [Bool.not_eq_true'] at h
            exact h
          rw [HG.out, HG.out] at hS
          (try simp only [Exit.inBlock, Exit.then])
          refine bodyPost_ret (results_none rfl _ _ _) rfl ?_
          refine ⟨rfl, m + nq, ?_⟩
          rw [HW.out, rowW_drewN, ← HQ.out, sd_l0 dk (by omega) (fun h => absurd h h1) hS]
        · have hS : ltN (G (first + root)) (G (first + 2 * root + 1)) = true := by
            have h : (!ltN (G (first + root)) (G (first + 2 * root + 1))) = false := by assumption
            rw [Bool.not_eq_false'] at h
            exact h
          rw [HG.out, HG.out] at hS
          go_region
          all_goals go_wp2_with fail
          go_roundg (hi - (2 * root + 1))
          case measure => omega
          case rel =>
            refine ⟨2 * root + 1, Sort.swp dk (first + root) (first + (2 * root + 1)), m + (nq + 1), by simp <;> omega, by omega, Nat.le_refl _, by rw [swp_size]; exact hds, ?_, ?_⟩
            · rw [HG.out, HG.out]
              exact rowW_swap HW.out (nq + 1) (by omega) (by omega)
            · rw [← HQ.out, sd_l1 dk (by omega) (fun h => absurd h h1) hS]

theorem half_nat {a b : Nat} (hab : a ≤ b) : ((b : Int) - (a : Int) - 1).tdiv 2 = (((b - a - 1) / 2 + 1 : Nat) : Int) - 1 := by
  rcases Nat.lt_or_ge a b with h | h
  · rw [Int.tdiv_eq_ediv_of_nonneg (by omega)]
    omega
  · obtain rfl : a = b := by omega
    rw [show ((a : Int) - (a : Int) - 1) = -1 by omega]
    simp
def hbI (w : World) (blk off a b : Nat) (d : Array Nat) (k : Nat) (v : Value) (wr : World) : Prop :=
  v = .int .i64 ((k : Int) - 1) ∧ k ≤ (b - a - 1) / 2 + 1 ∧ ∃ (dk : Array Nat) (n : Nat), dk.size = d.size ∧ wr = rowW w blk off n dk ∧ Sort.heapBuild ltN (b - a) a k dk = Sort.heapBuild ltN (b - a) a ((b - a - 1) / 2 + 1) d
def hpI (w : World) (blk off a b : Nat) (d dk : Array Nat) (k : Nat) (v : Value) (wr : World) : Prop :=
  v = .int .i64 ((k : Int) - 1) ∧ k ≤ b - a ∧ ∃ (dj : Array Nat) (n : Nat), dj.size = d.size ∧ wr = rowW w blk off n dj ∧ Sort.heapPop ltN a k dj = Sort.heapPop ltN a (b - a) dk
theorem heap32_any (blk off cap a b : Nat) (d : Array Nat) (w : World) (hH : Sort.Holds e32 w blk off d) (hab : a ≤ b) (hb : b ≤ d.size) (hsz : d.size < 4611686018427387904) :
    Calls Tryz.prog 159 #[.slice (some ⟨blk, off, none⟩) d.size cap, .int .i64 a, .int .i64 b] w fun e w' =>
      e = .returned (.tuple #[]) ∧ ∃ n, w' = rowW w blk off n (Sort.heapSort ltN d a b) := by
  have HH := Lib.hid hH
  clear hH
  have ecast : ((b - a : Nat) : Int) = (b : Int) - (a : Int) := by omega
  have EC := Lib.hid ecast
  clear ecast
  go_enter Tryz.func159, Tryz.ntmps159
  go_wp2_with fail
  go_loopg [9] ((b - a - 1) / 2 + 1) (fun k s9 wr => hbI w blk off a b d k s9 wr)
  case atStart => exact ⟨by rw [half_nat hab], Nat.le_refl _, d, 0, rfl, rowW_start HH.out, rfl⟩
  case round =>
    obtain ⟨rfl, hkk, dk, n, hds, hwr, heq⟩ := hrel
    have HQ := Lib.hid heq
    have HW := Lib.hid hwr
    clear hwr heq
    cases gk with
    | zero =>
      clear hkk
      go_wp2_with fail
      go_loopg [10] (b - a) (fun k s10 wr2 => hpI w blk off a b d dk k s10 wr2)
      case atStart => exact ⟨by rw [EC.out], Nat.le_refl _, dk, n, hds, HW.out, rfl⟩
      case round =>
        obtain ⟨rfl, hkk, dj, n2, hdj, hwr2, heq2⟩ := hrel
        have HQ2 := Lib.hid heq2
        clear HW heq2
        cases gk with
        | zero =>
          have HW := Lib.hid hwr2
          clear hwr2
          go_wp2_with fail
          go_end0
          refine ⟨rfl, n2, ?_⟩
          have e : dj = Sort.heapSort ltN d a b := by rw [Sort.heapSort, ← HQ.out]; exact HQ2.out
          rw [← e]; exact HW.out
        | succ k =>
          obtain ⟨G, hG⟩ : ∃ G : Nat → Nat, ∀ t, G t = dj[t]! := ⟨fun t => dj[t]!, fun _ => rfl⟩
          have hcw : ∀ t, t < d.size → wr.cell? ⟨blk, off + t, none⟩ = some (.int .u32 ((G t : Nat) : Int)) := fun t ht => by rw [hwr2, hG]; exact rowW_cell HH.out hdj ht
          have hfw : ∀ t, t < d.size → wr.frozen? ⟨blk, off + t, none⟩ = false := fun t ht => by rw [hwr2]; exact rowW_frozen HH.out hdj ht
          have HW := Lib.hid hwr2
          have HG := Lib.hid hG
          clear hwr2 hG
          rcases Nat.eq_zero_or_pos k with hk0 | hkp
          · subst hk0
            go_wp2_with fail
            go_region
            all_goals go_wp2_with fail
            repeat rw [HG.out]
            have hsw : ((wr.setCell ⟨blk, off + a, none⟩ (.int .u32 ((dj[a]! : Nat) : Int))).setCell ⟨blk, off + (a), none⟩ (.int .u32 ((dj[a]! : Nat) : Int))).drew = rowW w blk off (n2 + 1) (Sort.swp dj a (a)) := rowW_swap HW.out 1 (i := a) (j := a) (by omega) (by omega)
            rw [hsw]
            have hcall := sift32_any blk off cap 0 0 a (Sort.swp dj a (a)) (rowW w blk off (n2 + 1) (Sort.swp dj a (a))) (rowW_holds HH.out (by rw [swp_size]; exact hdj)) (Nat.zero_le _) (by rw [swp_size]; omega) (by rw [swp_size]; omega)
            rw [swp_size, hdj] at hcall
            refine hcall.mono ?_
            clear hcall hsw
            rintro e w1 ⟨rfl, m, rfl⟩
            rw [rowW_rowW _ _ (sd_size _ _ _ _ _ (Nat.le_refl _))]
            go_wp2_with fail
            go_roundg (0)
            case measure => omega
            case rel => exact ⟨by simp, by omega, Sort.siftDown ltN (0) a 0 (Sort.swp dj a (a)), n2 + 1 + m, by rw [sd_size _ _ _ _ _ (Nat.le_refl _), swp_size]; exact hdj, rfl, HQ2.out⟩
          · go_wp2_with fail
            go_region
            all_goals go_wp2_with fail
            repeat rw [HG.out]
            have hsw : ((wr.setCell ⟨blk, off + a, none⟩ (.int .u32 ((dj[a + k]! : Nat) : Int))).setCell ⟨blk, off + (a + k), none⟩ (.int .u32 ((dj[a]! : Nat) : Int))).drew = rowW w blk off (n2 + 1) (Sort.swp dj a (a + k)) := rowW_swap HW.out 1 (i := a) (j := a + k) (by omega) (by omega)
            rw [hsw]
            have hcall := sift32_any blk off cap 0 k a (Sort.swp dj a (a + k)) (rowW w blk off (n2 + 1) (Sort.swp dj a (a + k))) (rowW_holds HH.out (by rw [swp_size]; exact hdj)) (Nat.zero_le _) (by rw [swp_size]; omega) (by rw [swp_size]; omega)
            rw [swp_size, hdj] at hcall
            refine hcall.mono ?_
            clear hcall hsw
            rintro e w1 ⟨rfl, m, rfl⟩
            rw [rowW_rowW _ _ (sd_size _ _ _ _ _ (Nat.le_refl _))]
            go_wp2_with fail
            go_roundg (k)
            case measure => omega
            case rel => exact ⟨by simp, by omega, Sort.siftDown ltN (k) a 0 (Sort.swp dj a (a + k)), n2 + 1 + m, by rw [sd_size _ _ _ _ _ (Nat.le_refl _), swp_size]; exact hdj, rfl, HQ2.out⟩
    | succ k =>
      have hcall := sift32_any blk off cap k (b - a) a dk wr (by rw [HW.out]; exact rowW_holds HH.out hds) (by omega) (by omega) (by omega)
      rw [EC.out, hds] at hcall
      have HC := Lib.hid hcall
      clear hcall
      go_wp2_with (go_at_call 169; refine HC.out.mono ?_; rintro e w1 ⟨rfl, m, rfl⟩)
      go_roundg k
      case measure => omega
      case rel =>
        refine ⟨by simp, by omega, Sort.siftDown ltN (b - a) a k dk, n + m, by rw [sd_size _ _ _ _ _ (Nat.le_refl _)]; exact hds, ?_, HQ.out⟩
        rw [HW.out, rowW_rowW _ _ (sd_size _ _ _ _ _ (Nat.le_refl _))]
end Go.Proofs.YtcklfffeimnfeaaGreat

namespace Go.Proofs.YtcklfffeimnfeaaGreat
open Go.RowKit

theorem up_go (p : Nat → Bool) (d : Array Nat) (j i : Nat) (h : i ≤ j) (hp : p d[i]! = true) : Sort.scanUp p d j i = Sort.scanUp p d j (i + 1) := by
  rw [Sort.scanUp, if_pos (by simp [h, hp])]
theorem up_end (p : Nat → Bool) (d : Array Nat) (j i : Nat) (h : ¬ i ≤ j ∨ p d[i]! = false) : Sort.scanUp p d j i = i := by
  rw [Sort.scanUp, if_neg (by rcases h with h | h <;> simp [h])]
theorem dn_go (p : Nat → Bool) (d : Array Nat) (i j : Nat) (h : i ≤ j) (h0 : 0 < j) (hp : p d[j]! = true) : Sort.scanDown p d i j = Sort.scanDown p d i (j - 1) := by
  obtain ⟨k, rfl⟩ : ∃ k, j = k + 1 := ⟨j - 1, by omega⟩
  rw [Sort.scanDown, if_pos (by simp [h, hp])]
  rfl
theorem dn_end (p : Nat → Bool) (d : Array Nat) (i j : Nat) (h : ¬ i ≤ j ∨ p d[j]! = false) : Sort.scanDown p d i j = j := by
  cases j with
  | zero => rfl
  | succ k => rw [Sort.scanDown, if_neg (by rcases h with h | h <;> simp [h])]
theorem pe_break (a i j : Nat) (dk : Array Nat) {i2 j2 : Nat} (hi2 : Sort.scanUp (fun x => !ltN dk[a]! x) dk j i = i2) (hj2 : Sort.scanDown (fun x => ltN dk[a]! x) dk i2 j = j2) (h : j2 < i2) : Sort.partEqLoop ltN a i j dk = (i2, dk) := by
  subst hi2; subst hj2
  rw [Sort.partEqLoop_eq, if_pos h]
theorem pe_go (a i j : Nat) (dk : Array Nat) {i2 j2 : Nat} (hi2 : Sort.scanUp (fun x => !ltN dk[a]! x) dk j i = i2) (hj2 : Sort.scanDown (fun x => ltN dk[a]! x) dk i2 j = j2) (h : ¬ i2 > j2) :
    Sort.partEqLoop ltN a i j dk = Sort.partEqLoop ltN a (i2 + 1) (j2 - 1) (Sort.swp dk i2 j2) := by
  subst hi2; subst hj2
  rw [Sort.partEqLoop_eq, if_neg h]
theorem pt_break (a i j : Nat) (dk : Array Nat) {i2 j2 : Nat} (hi2 : Sort.scanUp (fun x => ltN x dk[a]!) dk j i = i2) (hj2 : Sort.scanDown (fun x => !ltN x dk[a]!) dk i2 j = j2) (h : j2 < i2) : Sort.partLoop ltN a i j dk = (j2, dk) := by
  subst hi2; subst hj2
  rw [Sort.partLoop_eq, if_pos h]
theorem pt_go (a i j : Nat) (dk : Array Nat) {i2 j2 : Nat} (hi2 : Sort.scanUp (fun x => ltN x dk[a]!) dk j i = i2) (hj2 : Sort.scanDown (fun x => !ltN x dk[a]!) dk i2 j = j2) (h : ¬ i2 > j2) :
    Sort.partLoop ltN a i j dk = Sort.partLoop ltN a (i2 + 1) (j2 - 1) (Sort.swp dk i2 j2) := by
  subst hi2; subst hj2
  rw [Sort.partLoop_eq, if_neg h]
theorem pt_first_break (d : Array Nat) (a b pivot : Nat) {dk : Array Nat} {i j i2 j2 : Nat} (hij : i = a + 1 ∧ j = b - 1) (hdk : dk = Sort.swp d a pivot) (hi2 : Sort.scanUp (fun x => ltN x dk[a]!) dk j i = i2) (hj2 : Sort.scanDown (fun x => !ltN x dk[a]!) dk i2 j = j2) (h : j2 < i2) :
    Sort.partition ltN d a b pivot = (j2, true, Sort.swp dk j2 a) := by
  obtain ⟨rfl, rfl⟩ := hij
  subst hdk; subst hi2; subst hj2
  unfold Sort.partition
  simp only []
  rw [if_pos h]
theorem pt_first_go (d : Array Nat) (a b pivot : Nat) {dk : Array Nat} {i j i2 j2 : Nat} (hij : i = a + 1 ∧ j = b - 1) (hdk : dk = Sort.swp d a pivot) (hi2 : Sort.scanUp (fun x => ltN x dk[a]!) dk j i = i2) (hj2 : Sort.scanDown (fun x => !ltN x dk[a]!) dk i2 j = j2) (h : ¬ i2 > j2) :
    Sort.partition ltN d a b pivot = ((Sort.partLoop ltN a (i2 + 1) (j2 - 1) (Sort.swp dk i2 j2)).1, false, Sort.swp (Sort.partLoop ltN a (i2 + 1) (j2 - 1) (Sort.swp dk i2 j2)).2 (Sort.partLoop ltN a (i2 + 1) (j2 - 1) (Sort.swp dk i2 j2)).1 a) := by
  obtain ⟨rfl, rfl⟩ := hij
  subst hdk; subst hi2; subst hj2
  unfold Sort.partition
  simp only []
  rw [if_neg h]
def scU (w : World) (blk off : Nat) (dk : Array Nat) (p : Nat → Bool) (i j : Nat) (v : Value) (wr : World) : Prop :=
  ∃ i' n : Nat, v = .int .i64 i' ∧ i ≤ i' ∧ i' ≤ j + 1 ∧ wr = rowW w blk off n dk ∧ Sort.scanUp p dk j i' = Sort.scanUp p dk j i
def scD (w : World) (blk off : Nat) (dk : Array Nat) (p : Nat → Bool) (i j : Nat) (v : Value) (wr : World) : Prop :=
  ∃ j' n : Nat, v = .int .i64 j' ∧ j' ≤ j ∧ i ≤ j' + 1 ∧ wr = rowW w blk off n dk ∧ Sort.scanDown p dk i j' = Sort.scanDown p dk i j
def peI (w : World) (blk off a b pivot : Nat) (d : Array Nat) (v1 v2 : Value) (wr : World) : Prop :=
  ∃ (i j n : Nat) (dk : Array Nat), v1 = .int .i64 i ∧ v2 = .int .i64 j ∧ a < i ∧ i ≤ j + 1 ∧ j < b ∧ dk.size = d.size ∧ wr = rowW w blk off n dk ∧ Sort.partEqLoop ltN a i j dk = Sort.partEqLoop ltN a (a + 1) (b - 1) (Sort.swp d a pivot)
def ptI (w : World) (blk off a i0 j0 b : Nat) (d d0 : Array Nat) (v1 v2 : Value) (wr : World) : Prop :=
  ∃ (i j n : Nat) (dk : Array Nat), v1 = .int .i64 i ∧ v2 = .int .i64 j ∧ a < i ∧ i ≤ j + 1 ∧ j < b ∧ dk.size = d.size ∧ wr = rowW w blk off n dk ∧ Sort.partLoop ltN a i j dk = Sort.partLoop ltN a i0 j0 d0

theorem peq32_any (blk off cap a b pivot : Nat) (d : Array Nat) (w : World) (hH : Sort.Holds e32 w blk off d) (hap : a ≤ pivot) (hpb : pivot < b) (hb : b ≤ d.size) (hsz : d.size < 4611686018427387904) :
    Calls Tryz.prog 165 #[.slice (some ⟨blk, off, none⟩) d.size cap, .int .i64 a, .int .i64 b, .int .i64 pivot] w fun e w' =>
      e = .returned (.int .i64 ((Sort.partitionEqual ltN d a b pivot).1 : Nat)) ∧ ∃ n, w' = rowW w blk off n (Sort.partitionEqual ltN d a b pivot).2 := by
  have HH := Lib.hid hH
  clear hH
  have hw0 := rowW_start HH.out
  have hds : d.size = d.size := rfl
  obtain ⟨G, hG⟩ : ∃ G : Nat → Nat, ∀ t, G t = d[t]! := ⟨fun t => d[t]!, fun _ => rfl⟩
  have hcw : ∀ t, t < d.size → w.cell? ⟨blk, off + t, none⟩ = some (.int .u32 ((G t : Nat) : Int)) := fun t ht => by rw [hw0, hG]; exact rowW_cell HH.out hds ht
  have hfw : ∀ t, t < d.size → w.frozen? ⟨blk, off + t, none⟩ = false := fun t ht => by rw [hw0]; exact rowW_frozen HH.out hds ht
  have HW := Lib.hid hw0
  have HG := Lib.hid hG
  clear hw0 hG
  clear hds
  have cq : w.cell? ⟨blk, off + pivot, none⟩ = some (.int .u32 ((G pivot : Nat) : Int)) := hcw pivot (by omega)
  obtain ⟨v', hy'⟩ := cell?_setCell_some (w := w) (p := ⟨blk, off + a, none⟩) (x := .int .u32 ((G pivot : Nat) : Int)) (q := ⟨blk, off + pivot, none⟩) cq
  have hlx : a < d.size := by omega
  have hly : pivot < d.size := by omega
  go_enter Tryz.func165, Tryz.ntmps165
  go_wp2_with fail
  go_region
  all_goals go_wp2_with fail
  repeat rw [HG.out]
  have hsw : ((w.setCell ⟨blk, off + a, none⟩ (.int .u32 ((d[pivot]! : Nat) : Int))).setCell ⟨blk, off + pivot, none⟩ (.int .u32 ((d[a]! : Nat) : Int))).drew = rowW w blk off (0 + 1) (Sort.swp d a pivot) := rowW_swap HW.out 1 hlx hly
  rw [hsw]
  clear hsw hcw hfw HW HG cq hy' v' G
  go_loopw [9, 10] (fun v1 v2 wr => peI w blk off a b pivot d v1 v2 wr) (fun v1 v2 _ => (intOf v2).toNat + 1 - (intOf v1).toNat)
  case atStart => exact ⟨a + 1, b - 1, 0 + 1, Sort.swp d a pivot, by go_num, by go_num, by omega, by omega, by omega, swp_size _ _ _, rfl, rfl⟩
  case round =>
    obtain ⟨i, j, n, dk, rfl, rfl, hai, hij, hjb, hs, hw, heq⟩ := hrel
    have HE := Lib.hid heq
    have HW0 := Lib.hid hw
    clear heq hw
    go_wp2_with fail
    go_loopw [9] (fun v wr => scU w blk off dk (fun x => !ltN dk[a]! x) i j v wr) (fun v _ => j + 1 - (intOf v).toNat)
    case atStart => exact ⟨i, _, by first | rfl | go_num, Nat.le_refl _, hij, HW0.out, rfl⟩
    case round =>
      obtain ⟨i', n1, rfl, hii, hij', hw1, hsc⟩ := hrel
      have HSC := Lib.hid hsc
      clear hsc HW0
      obtain ⟨G, hG⟩ : ∃ G : Nat → Nat, ∀ t, G t = dk[t]! := ⟨fun t => dk[t]!, fun _ => rfl⟩
      have hcw : ∀ t, t < d.size → wr.cell? ⟨blk, off + t, none⟩ = some (.int .u32 ((G t : Nat) : Int)) := fun t ht => by rw [hw1, hG]; exact rowW_cell HH.out hs ht
      have hfw : ∀ t, t < d.size → wr.frozen? ⟨blk, off + t, none⟩ = false := fun t ht => by rw [hw1]; exact rowW_frozen HH.out hs ht
      have HW := Lib.hid hw1
      have HG := Lib.hid hG
      clear hw1 hG
      by_cases hle : i' ≤ j
      · have hlz : decide (i' ≤ j) = true := decide_eq_true hle
        go_wp2_with fail
        go_quiet ((go_at_call 164; exact Calls.quiet_of_same (less32_any _ _ _)))
        go_wp2_with fail
        · have ht : (!ltN (G a) (G i')) = true := by assumption
          rw [HG.out, HG.out] at ht
          go_roundw
          case rel => exact ⟨i' + 1, n1 + nq, by go_num, by omega, by omega, by rw [HW.out]; exact rowW_drewN _, (up_go (fun x => !ltN dk[a]! x) dk j i' hle ht).symm.trans HSC.out⟩
          case measure => simp [intOf]; omega
        · have ht : (!ltN (G a) (G i')) = false := by assumption
          rw [HG.out, HG.out] at ht
          have HI2 := Lib.hid (HSC.out.symm.trans (up_end (fun x => !ltN dk[a]! x) dk j i' (.inr ht)))
          have HT := Lib.hid ht
          have HW2 := Lib.hid (show wr.drewN nq = rowW w blk off (n1 + nq) dk by rw [HW.out]; exact rowW_drewN _)
          clear ht HSC hcw hfw HW HG hlz
          go_loopw [10] (fun v wr => scD w blk off dk (fun x => ltN dk[a]! x) i' j v wr) (fun v _ => (intOf v).toNat)
          case atStart => exact ⟨j, n1 + nq, rfl, Nat.le_refl _, by omega, HW2.out, rfl⟩
          case round =>
            clear HW2
            obtain ⟨j', n2, rfl, hjj, hij2, hw3, hsd⟩ := hrel
            have HSD := Lib.hid hsd
            clear hsd
            obtain ⟨G, hG⟩ : ∃ G : Nat → Nat, ∀ t, G t = dk[t]! := ⟨fun t => dk[t]!, fun _ => rfl⟩
            have hcw : ∀ t, t < d.size → wr.cell? ⟨blk, off + t, none⟩ = some (.int .u32 ((G t : Nat) : Int)) := fun t ht => by rw [hw3, hG]; exact rowW_cell HH.out hs ht
            have hfw : ∀ t, t < d.size → wr.frozen? ⟨blk, off + t, none⟩ = false := fun t ht => by rw [hw3]; exact rowW_frozen HH.out hs ht
            have HW := Lib.hid hw3
            have HG := Lib.hid hG
            clear hw3 hG
            by_cases hle2 : i' ≤ j'
            · have hlz : decide (i' ≤ j') = true := decide_eq_true hle2
              go_wp2_with fail
              go_quiet ((go_at_call 164; exact Calls.quiet_of_same (less32_any _ _ _)))
              go_wp2_with fail
              · have ht : ltN (G a) (G j') = true := by assumption
                rw [HG.out, HG.out] at ht
                go_roundw
                case rel => exact ⟨j' - 1, n2 + nq, by go_num, by omega, by omega, by rw [HW.out]; exact rowW_drewN _, (dn_go (fun x => ltN dk[a]! x) dk i' j' hle2 (by omega) ht).symm.trans HSD.out⟩
                case measure => simp [intOf]; omega
              · have ht : ltN (G a) (G j') = false := by assumption
                rw [HG.out, HG.out] at ht
                have HJ2 := Lib.hid (HSD.out.symm.trans (dn_end (fun x => ltN dk[a]! x) dk i' j' (.inr ht)))
                have hst : i' < j' := by
                  rcases Nat.lt_or_ge i' j' with h | h
                  · exact h
                  · have e : i' = j' := by omega
                    have h2 := HT.out
                    rw [e] at h2
                    simp only [Bool.not_eq_false', Bool.not_eq_true'] at h2 ht
                    rw [h2] at ht
                    cases ht
                clear ht hlz
                go_wp2_with fail
                go_region
                all_goals go_wp2_with fail
                have hsw : ((wr.drewN (nq + 1)).setCell ⟨blk, off + i', none⟩ (.int .u32 ((dk[j']! : Nat) : Int))).setCell ⟨blk, off + j', none⟩ (.int .u32 ((dk[i']! : Nat) : Int)) = rowW w blk off (n2 + (nq + 1)) (Sort.swp dk i' j') := rowW_swap HW.out (nq + 1) (by omega) (by omega)
                go_roundw
                case rel =>
                  refine ⟨i' + 1, j' - 1, n2 + (nq + 1), Sort.swp dk i' j', by go_num, by go_num, by omega, by omega, by omega, by rw [swp_size]; exact hs, ?_, ?_⟩
                  · repeat rw [HG.out]
                    exact hsw
                  · rw [← HE.out, pe_go a i j dk HI2.out HJ2.out (by omega)]
                case measure => simp [intOf]; omega
            · have hlz : decide (i' ≤ j') = false := decide_eq_false hle2
              have HJ2 := Lib.hid (HSD.out.symm.trans (dn_end (fun x => ltN dk[a]! x) dk i' j' (.inl hle2)))
              go_wp2_with fail
              go_quiet ((go_at_call 164; exact Calls.quiet_of_same (less32_any _ _ _)))
              go_wp2_with fail
              go_wp2_with fail
              go_ret
              have e := pe_break a i j dk HI2.out HJ2.out (by omega)
              refine ⟨?_, n2 + nq, ?_⟩
              · unfold Sort.partitionEqual; rw [← HE.out, e]; rfl
              · unfold Sort.partitionEqual; rw [← HE.out, e, HW.out, rowW_drewN]
      · have hlz : decide (i' ≤ j) = false := decide_eq_false hle
        have HI2 := Lib.hid (HSC.out.symm.trans (up_end (fun x => !ltN dk[a]! x) dk j i' (.inl hle)))
        go_wp2_with fail
        go_quiet ((go_at_call 164; exact Calls.quiet_of_same (less32_any _ _ _)))
        go_wp2_with fail
        have HW2 := Lib.hid (show wr.drewN nq = rowW w blk off (n1 + nq) dk by rw [HW.out]; exact rowW_drewN _)
        clear HSC hcw hfw HW HG hlz
        go_loopw [10] (fun v wr => scD w blk off dk (fun x => ltN dk[a]! x) i' j v wr) (fun v _ => (intOf v).toNat)
        case atStart => exact ⟨j, n1 + nq, rfl, Nat.le_refl _, by omega, HW2.out, rfl⟩
        case round =>
          clear HW2
          obtain ⟨j', n2, rfl, hjj, hij2, hw3, hsd⟩ := hrel
          have HSD := Lib.hid hsd
          clear hsd
          obtain ⟨G, hG⟩ : ∃ G : Nat → Nat, ∀ t, G t = dk[t]! := ⟨fun t => dk[t]!, fun _ => rfl⟩
          have hcw : ∀ t, t < d.size → wr.cell? ⟨blk, off + t, none⟩ = some (.int .u32 ((G t : Nat) : Int)) := fun t ht => by rw [hw3, hG]; exact rowW_cell HH.out hs ht
          have hfw : ∀ t, t < d.size → wr.frozen? ⟨blk, off + t, none⟩ = false := fun t ht => by rw [hw3]; exact rowW_frozen HH.out hs ht
          have HW := Lib.hid hw3
          have HG := Lib.hid hG
          clear hw3 hG
          have hle2 : ¬ i' ≤ j' := by omega
          have hlz : decide (i' ≤ j') = false := decide_eq_false hle2
          have HJ2 := Lib.hid (HSD.out.symm.trans (dn_end (fun x => ltN dk[a]! x) dk i' j' (.inl hle2)))
          go_wp2_with fail
          go_quiet ((go_at_call 164; exact Calls.quiet_of_same (less32_any _ _ _)))
          go_wp2_with fail
          go_wp2_with fail
          go_ret
          have e := pe_break a i j dk HI2.out HJ2.out (by omega)
          refine ⟨?_, n2 + nq, ?_⟩
          · unfold Sort.partitionEqual; rw [← HE.out, e]; rfl
          · unfold Sort.partitionEqual; rw [← HE.out, e, HW.out, rowW_drewN]

theorem part32_any (blk off cap a b pivot : Nat) (d : Array Nat) (w : World) (hH : Sort.Holds e32 w blk off d) (hap : a ≤ pivot) (hpb : pivot < b) (hb : b ≤ d.size) (hsz : d.size < 4611686018427387904) :
    Calls Tryz.prog 166 #[.slice (some ⟨blk, off, none⟩) d.size cap, .int .i64 a, .int .i64 b, .int .i64 pivot] w fun e w' =>
      e = .returned (.tuple #[.int .i64 ((Sort.partition ltN d a b pivot).1 : Nat), .bool (Sort.partition ltN d a b pivot).2.1]) ∧ ∃ n, w' = rowW w blk off n (Sort.partition ltN d a b pivot).2.2 := by
  have HH := Lib.hid hH
  clear hH
  have hw0 := rowW_start HH.out
  have hds : d.size = d.size := rfl
  obtain ⟨G, hG⟩ : ∃ G : Nat → Nat, ∀ t, G t = d[t]! := ⟨fun t => d[t]!, fun _ => rfl⟩
  have hcw : ∀ t, t < d.size → w.cell? ⟨blk, off + t, none⟩ = some (.int .u32 ((G t : Nat) : Int)) := fun t ht => by rw [hw0, hG]; exact rowW_cell HH.out hds ht
  have hfw : ∀ t, t < d.size → w.frozen? ⟨blk, off + t, none⟩ = false := fun t ht => by rw [hw0]; exact rowW_frozen HH.out hds ht
  have HW := Lib.hid hw0
  have HG := Lib.hid hG
  clear hw0 hG
  clear hds
  have cq : w.cell? ⟨blk, off + pivot, none⟩ = some (.int .u32 ((G pivot : Nat) : Int)) := hcw pivot (by omega)
  obtain ⟨v', hy'⟩ := cell?_setCell_some (w := w) (p := ⟨blk, off + a, none⟩) (x := .int .u32 ((G pivot : Nat) : Int)) (q := ⟨blk, off + pivot, none⟩) cq
  have hlx : a < d.size := by omega
  have hly : pivot < d.size := by omega
  go_enter Tryz.func166, Tryz.ntmps166
  go_wp2_with fail
  go_region
  all_goals go_wp2_with fail
  repeat rw [HG.out]
  have hsw : ((w.setCell ⟨blk, off + a, none⟩ (.int .u32 ((d[pivot]! : Nat) : Int))).setCell ⟨blk, off + pivot, none⟩ (.int .u32 ((d[a]! : Nat) : Int))).drew = rowW w blk off (0 + 1) (Sort.swp d a pivot) := rowW_swap HW.out 1 hlx hly
  rw [hsw]
  clear hsw hcw hfw HW HG cq hy' v' G
  obtain ⟨dk, hdk⟩ : ∃ dk, dk = Sort.swp d a pivot := ⟨_, rfl⟩
  obtain ⟨i, hi⟩ : ∃ i, i = a + 1 := ⟨_, rfl⟩
  obtain ⟨j, hj⟩ : ∃ j, j = b - 1 := ⟨_, rfl⟩
  have hs : dk.size = d.size := by rw [hdk]; exact swp_size _ _ _
  have hai : a < i := by omega
  have hij : i ≤ j + 1 := by omega
  have hjb : j < b := by omega
  rw [show ((a : Int) + 1) = ((i : Nat) : Int) by omega, show ((b : Int) - 1) = ((j : Nat) : Int) by omega, ← hdk]
  have HW0 := Lib.hid (rfl : rowW w blk off (0 + 1) dk = rowW w blk off (0 + 1) dk)
  have HDK := Lib.hid hdk
  have HIJ := Lib.hid (And.intro hi hj)
  clear hdk hi hj
  go_loopw [10] (fun v wr => scU w blk off dk (fun x => ltN x dk[a]!) i j v wr) (fun v _ => j + 1 - (intOf v).toNat)
  case atStart => exact ⟨i, _, by first | rfl | go_num, Nat.le_refl _, hij, HW0.out, rfl⟩
  case round =>
    obtain ⟨i', n1, rfl, hii, hij', hw1, hsc⟩ := hrel
    have HSC := Lib.hid hsc
    clear hsc HW0
    obtain ⟨G, hG⟩ : ∃ G : Nat → Nat, ∀ t, G t = dk[t]! := ⟨fun t => dk[t]!, fun _ => rfl⟩
    have hcw : ∀ t, t < d.size → wr.cell? ⟨blk, off + t, none⟩ = some (.int .u32 ((G t : Nat) : Int)) := fun t ht => by rw [hw1, hG]; exact rowW_cell HH.out hs ht
    have hfw : ∀ t, t < d.size → wr.frozen? ⟨blk, off + t, none⟩ = false := fun t ht => by rw [hw1]; exact rowW_frozen HH.out hs ht
    have HW := Lib.hid hw1
    have HG := Lib.hid hG
    clear hw1 hG
    by_cases hle : i' ≤ j
    · have hlz : decide (i' ≤ j) = true := decide_eq_true hle
      go_wp2_with fail
      go_quiet ((go_at_call 164; exact Calls.quiet_of_same (less32_any _ _ _)))
      go_wp2_with fail
      · have ht : ltN (G i') (G a) = true := by assumption
        rw [HG.out, HG.out] at ht
        go_roundw
        case rel => exact ⟨i' + 1, n1 + nq, by go_num, by omega, by omega, by rw [HW.out]; exact rowW_drewN _, (up_go (fun x => ltN x dk[a]!) dk j i' hle ht).symm.trans HSC.out⟩
        case measure => simp [intOf]; omega
      · have ht : ltN (G i') (G a) = false := by assumption
        rw [HG.out, HG.out] at ht
        have HI2 := Lib.hid (HSC.out.symm.trans (up_end (fun x => ltN x dk[a]!) dk j i' (.inr ht)))
        have HT := Lib.hid ht
        have HW2 := Lib.hid (show wr.drewN nq = rowW w blk off (n1 + nq) dk by rw [HW.out]; exact rowW_drewN _)
        clear ht HSC hcw hfw HW HG hlz
        go_loopw [11] (fun v wr => scD w blk off dk (fun x => !ltN x dk[a]!) i' j v wr) (fun v _ => (intOf v).toNat)
        case atStart => exact ⟨j, n1 + nq, rfl, Nat.le_refl _, by omega, HW2.out, rfl⟩
        case round =>
          clear HW2
          obtain ⟨j', n2, rfl, hjj, hij2, hw3, hsd⟩ := hrel
          have HSD := Lib.hid hsd
          clear hsd
          obtain ⟨G, hG⟩ : ∃ G : Nat → Nat, ∀ t, G t = dk[t]! := ⟨fun t => dk[t]!, fun _ => rfl⟩
          have hcw : ∀ t, t < d.size → wr.cell? ⟨blk, off + t, none⟩ = some (.int .u32 ((G t : Nat) : Int)) := fun t ht => by rw [hw3, hG]; exact rowW_cell HH.out hs ht
          have hfw : ∀ t, t < d.size → wr.frozen? ⟨blk, off + t, none⟩ = false := fun t ht => by rw [hw3]; exact rowW_frozen HH.out hs ht
          have HW := Lib.hid hw3
          have HG := Lib.hid hG
          clear hw3 hG
          by_cases hle2 : i' ≤ j'
          · have hlz : decide (i' ≤ j') = true := decide_eq_true hle2
            go_wp2_with fail
            go_quiet ((go_at_call 164; exact Calls.quiet_of_same (less32_any _ _ _)))
            go_wp2_with fail
            · have ht : (!ltN (G j') (G a)) = true := by assumption
              rw [HG.out, HG.out] at ht
              go_roundw
              case rel => exact ⟨j' - 1, n2 + nq, by go_num, by omega, by omega, by rw [HW.out]; exact rowW_drewN _, (dn_go (fun x => !ltN x dk[a]!) dk i' j' hle2 (by omega) ht).symm.trans HSD.out⟩
              case measure => simp [intOf]; omega
            · have ht : (!ltN (G j') (G a)) = false := by assumption
              rw [HG.out, HG.out] at ht
              have HJ2 := Lib.hid (HSD.out.symm.trans (dn_end (fun x => !ltN x dk[a]!) dk i' j' (.inr ht)))
              have hst : i' < j' := by
                rcases Nat.lt_or_ge i' j' with h | h
                · exact h
                · have e : i' = j' := by omega
                  have h2 := HT.out
                  rw [e] at h2
                  simp only [Bool.not_eq_false', Bool.not_eq_true'] at h2 ht
                  rw [h2] at ht
                  cases ht
              clear ht hlz
              go_wp2_with fail
              go_region
              all_goals go_wp2_with fail
              have hsw : ((wr.drewN (nq + 1)).setCell ⟨blk, off + i', none⟩ (.int .u32 ((dk[j']! : Nat) : Int))).setCell ⟨blk, off + j', none⟩ (.int .u32 ((dk[i']! : Nat) : Int)) = rowW w blk off (n2 + (nq + 1)) (Sort.swp dk i' j') := rowW_swap HW.out (nq + 1) (by omega) (by omega)
              repeat rw [HG.out]
              rw [hsw]
              clear hsw
              have he1 := pt_first_go d a b pivot HIJ.out HDK.out HI2.out HJ2.out (by omega)
              obtain ⟨dm, hdm⟩ : ∃ dm, dm = Sort.swp dk i' j' := ⟨_, rfl⟩
              obtain ⟨i3, hi3⟩ : ∃ x, x = i' + 1 := ⟨_, rfl⟩
              obtain ⟨j3, hj3⟩ : ∃ x, x = j' - 1 := ⟨_, rfl⟩
              have hsm : dm.size = d.size := by rw [hdm, swp_size]; exact hs
              rw [← hdm, ← hi3, ← hj3] at he1
              rw [show ((i' : Int) + 1) = ((i3 : Nat) : Int) by omega, show ((j' : Int) - 1) = ((j3 : Nat) : Int) by omega, ← hdm]
              have HE1 := Lib.hid he1
              have hai3 : a < i3 := by omega
              have hij3 : i3 ≤ j3 + 1 := by omega
              have hjb3 : j3 < b := by omega
              clear he1 hcw hfw HW HG HI2 HJ2 HSD HT hdm hi3 hj3 hle hle2 hst hij hij' hij2 hii hjj hai hjb hs HDK HIJ
              go_loopw [10, 11] (fun v1 v2 wr => ptI w blk off a i3 j3 b d dm v1 v2 wr) (fun v1 v2 _ => (intOf v2).toNat + 1 - (intOf v1).toNat)
              case atStart => exact ⟨i3, j3, _, dm, rfl, rfl, hai3, hij3, hjb3, hsm, rfl, rfl⟩
              case round =>
                clear hai3 hij3 hjb3
                obtain ⟨i, j, n3, dk, rfl, rfl, hai, hij, hjb, hs, hw5, heq⟩ := hrel
                have HE := Lib.hid heq
                have HW0 := Lib.hid hw5
                clear heq hw5
                go_wp2_with fail
                go_loopw [10] (fun v wr => scU w blk off dk (fun x => ltN x dk[a]!) i j v wr) (fun v _ => j + 1 - (intOf v).toNat)
                case atStart => exact ⟨i, _, by first | rfl | go_num, Nat.le_refl _, hij, HW0.out, rfl⟩
                case round =>
                  obtain ⟨i', n1, rfl, hii, hij', hw1, hsc⟩ := hrel
                  have HSC := Lib.hid hsc
                  clear hsc HW0
                  obtain ⟨G, hG⟩ : ∃ G : Nat → Nat, ∀ t, G t = dk[t]! := ⟨fun t => dk[t]!, fun _ => rfl⟩
                  have hcw : ∀ t, t < d.size → wr.cell? ⟨blk, off + t, none⟩ = some (.int .u32 ((G t : Nat) : Int)) := fun t ht => by rw [hw1, hG]; exact rowW_cell HH.out hs ht
                  have hfw : ∀ t, t < d.size → wr.frozen? ⟨blk, off + t, none⟩ = false := fun t ht => by rw [hw1]; exact rowW_frozen HH.out hs ht
                  have HW := Lib.hid hw1
                  have HG := Lib.hid hG
                  clear hw1 hG
                  by_cases hle : i' ≤ j
                  · have hlz : decide (i' ≤ j) = true := decide_eq_true hle
                    go_wp2_with fail
                    go_quiet ((go_at_call 164; exact Calls.quiet_of_same (less32_any _ _ _)))
                    go_wp2_with fail
                    · have ht : ltN (G i') (G a) = true := by assumption
                      rw [HG.out, HG.out] at ht
                      go_roundw
                      case rel => exact ⟨i' + 1, n1 + nq, by go_num, by omega, by omega, by rw [HW.out]; exact rowW_drewN _, (up_go (fun x => ltN x dk[a]!) dk j i' hle ht).symm.trans HSC.out⟩
                      case measure => simp [intOf]; omega
                    · have ht : ltN (G i') (G a) = false := by assumption
                      rw [HG.out, HG.out] at ht
                      have HI2 := Lib.hid (HSC.out.symm.trans (up_end (fun x => ltN x dk[a]!) dk j i' (.inr ht)))
                      have HT := Lib.hid ht
                      have HW2 := Lib.hid (show wr.drewN nq = rowW w blk off (n1 + nq) dk by rw [HW.out]; exact rowW_drewN _)
                      clear ht HSC hcw hfw HW HG hlz
                      go_loopw [11] (fun v wr => scD w blk off dk (fun x => !ltN x dk[a]!) i' j v wr) (fun v _ => (intOf v).toNat)
                      case atStart => exact ⟨j, n1 + nq, rfl, Nat.le_refl _, by omega, HW2.out, rfl⟩
                      case round =>
                        clear HW2
                        obtain ⟨j', n2, rfl, hjj, hij2, hw3, hsd⟩ := hrel
                        have HSD := Lib.hid hsd
                        clear hsd
                        obtain ⟨G, hG⟩ : ∃ G : Nat → Nat, ∀ t, G t = dk[t]! := ⟨fun t => dk[t]!, fun _ => rfl⟩
                        have hcw : ∀ t, t < d.size → wr.cell? ⟨blk, off + t, none⟩ = some (.int .u32 ((G t : Nat) : Int)) := fun t ht => by rw [hw3, hG]; exact rowW_cell HH.out hs ht
                        have hfw : ∀ t, t < d.size → wr.frozen? ⟨blk, off + t, none⟩ = false := fun t ht => by rw [hw3]; exact rowW_frozen HH.out hs ht
                        have HW := Lib.hid hw3
                        have HG := Lib.hid hG
                        clear hw3 hG
                        by_cases hle2 : i' ≤ j'
                        · have hlz : decide (i' ≤ j') = true := decide_eq_true hle2
                          go_wp2_with fail
                          go_quiet ((go_at_call 164; exact Calls.quiet_of_same (less32_any _ _ _)))
                          go_wp2_with fail
                          · have ht : (!ltN (G j') (G a)) = true := by assumption
                            rw [HG.out, HG.out] at ht
                            go_roundw
                            case rel => exact ⟨j' - 1, n2 + nq, by go_num, by omega, by omega, by rw [HW.out]; exact rowW_drewN _, (dn_go (fun x => !ltN x dk[a]!) dk i' j' hle2 (by omega) ht).symm.trans HSD.out⟩
                            case measure => simp [intOf]; omega
                          · have ht : (!ltN (G j') (G a)) = false := by assumption
                            rw [HG.out, HG.out] at ht
                            have HJ2 := Lib.hid (HSD.out.symm.trans (dn_end (fun x => !ltN x dk[a]!) dk i' j' (.inr ht)))
                            have hst : i' < j' := by
                              rcases Nat.lt_or_ge i' j' with h | h
                              · exact h
                              · have e : i' = j' := by omega
                                have h2 := HT.out
                                rw [e] at h2
                                simp only [Bool.not_eq_false', Bool.not_eq_true'] at h2 ht
                                rw [h2] at ht
                                cases ht
                            clear ht hlz
                            go_wp2_with fail
                            go_region
                            all_goals go_wp2_with fail
                            have hsw : ((wr.drewN (nq + 1)).setCell ⟨blk, off + i', none⟩ (.int .u32 ((dk[j']! : Nat) : Int))).setCell ⟨blk, off + j', none⟩ (.int .u32 ((dk[i']! : Nat) : Int)) = rowW w blk off (n2 + (nq + 1)) (Sort.swp dk i' j') := rowW_swap HW.out (nq + 1) (by omega) (by omega)
                            go_roundw
                            case rel =>
                              refine ⟨i' + 1, j' - 1, n2 + (nq + 1), Sort.swp dk i' j', by go_num, by go_num, by omega, by omega, by omega, by rw [swp_size]; exact hs, ?_, ?_⟩
                              · repeat rw [HG.out]
                                exact hsw
                              · rw [← pt_go a i j dk HI2.out HJ2.out (by omega)]; exact HE.out
                            case measure => simp [intOf]; omega
                        · have hlz : decide (i' ≤ j') = false := decide_eq_false hle2
                          have HJ2 := Lib.hid (HSD.out.symm.trans (dn_end (fun x => !ltN x dk[a]!) dk i' j' (.inl hle2)))
                          go_wp2_with fail
                          go_quiet ((go_at_call 164; exact Calls.quiet_of_same (less32_any _ _ _)))
                          go_wp2_with fail
                          obtain ⟨W3, hW3⟩ : ∃ W3, W3 = wr.drewN nq := ⟨_, rfl⟩
                          have HW3 := Lib.hid (show W3 = rowW w blk off (n2 + nq) dk by rw [hW3, HW.out]; exact rowW_drewN _)
                          have hc3 : ∀ t, t < d.size → W3.cell? ⟨blk, off + t, none⟩ = some (.int .u32 ((G t : Nat) : Int)) := fun t ht => by rw [hW3]; exact hcw t ht
                          have hf3 : ∀ t, t < d.size → W3.frozen? ⟨blk, off + t, none⟩ = false := fun t ht => by rw [hW3]; exact hfw t ht
                          rw [← hW3]
                          clear hW3 hcw hfw HW
                          have cq : W3.cell? ⟨blk, off + a, none⟩ = some (.int .u32 ((G a : Nat) : Int)) := hc3 a (by omega)
                          obtain ⟨v3, hy3⟩ := cell?_setCell_some (w := W3) (p := ⟨blk, off + j', none⟩) (x := .int .u32 ((G a : Nat) : Int)) (q := ⟨blk, off + a, none⟩) cq
                          have hlj : j' < d.size := by omega
                          have hla : a < d.size := by omega
                          go_wp2_with fail
                          go_region
                          all_goals go_wp2_with fail
                          all_goals go_ret2
                          have e := pt_break a i j dk HI2.out HJ2.out (by omega)
                          have e2 := HE1.out
                          rw [← HE.out, e] at e2
                          refine ⟨by rw [e2]; rfl, n2 + nq + 1, ?_⟩
                          rw [e2]
                          repeat rw [HG.out]
                          exact rowW_swap HW3.out 1 (by omega) (by omega)
                  · have hlz : decide (i' ≤ j) = false := decide_eq_false hle
                    have HI2 := Lib.hid (HSC.out.symm.trans (up_end (fun x => ltN x dk[a]!) dk j i' (.inl hle)))
                    go_wp2_with fail
                    go_quiet ((go_at_call 164; exact Calls.quiet_of_same (less32_any _ _ _)))
                    go_wp2_with fail
                    have HW2 := Lib.hid (show wr.drewN nq = rowW w blk off (n1 + nq) dk by rw [HW.out]; exact rowW_drewN _)
                    clear HSC hcw hfw HW HG hlz
                    go_loopw [11] (fun v wr => scD w blk off dk (fun x => !ltN x dk[a]!) i' j v wr) (fun v _ => (intOf v).toNat)
                    case atStart => exact ⟨j, n1 + nq, rfl, Nat.le_refl _, by omega, HW2.out, rfl⟩
                    case round =>
                      clear HW2
                      obtain ⟨j', n2, rfl, hjj, hij2, hw3, hsd⟩ := hrel
                      have HSD := Lib.hid hsd
                      clear hsd
                      obtain ⟨G, hG⟩ : ∃ G : Nat → Nat, ∀ t, G t = dk[t]! := ⟨fun t => dk[t]!, fun _ => rfl⟩
                      have hcw : ∀ t, t < d.size → wr.cell? ⟨blk, off + t, none⟩ = some (.int .u32 ((G t : Nat) : Int)) := fun t ht => by rw [hw3, hG]; exact rowW_cell HH.out hs ht
                      have hfw : ∀ t, t < d.size → wr.frozen? ⟨blk, off + t, none⟩ = false := fun t ht => by rw [hw3]; exact rowW_frozen HH.out hs ht
                      have HW := Lib.hid hw3
                      have HG := Lib.hid hG
                      clear hw3 hG
                      have hle2 : ¬ i' ≤ j' := by omega
                      have hlz : decide (i' ≤ j') = false := decide_eq_false hle2
                      have HJ2 := Lib.hid (HSD.out.symm.trans (dn_end (fun x => !ltN x dk[a]!) dk i' j' (.inl hle2)))
                      go_wp2_with fail
                      go_quiet ((go_at_call 164; exact Calls.quiet_of_same (less32_any _ _ _)))
                      go_wp2_with fail
                      obtain ⟨W3, hW3⟩ : ∃ W3, W3 = wr.drewN nq := ⟨_, rfl⟩
                      have HW3 := Lib.hid (show W3 = rowW w blk off (n2 + nq) dk by rw [hW3, HW.out]; exact rowW_drewN _)
                      have hc3 : ∀ t, t < d.size → W3.cell? ⟨blk, off + t, none⟩ = some (.int .u32 ((G t : Nat) : Int)) := fun t ht => by rw [hW3]; exact hcw t ht
                      have hf3 : ∀ t, t < d.size → W3.frozen? ⟨blk, off + t, none⟩ = false := fun t ht => by rw [hW3]; exact hfw t ht
                      rw [← hW3]
                      clear hW3 hcw hfw HW
                      have cq : W3.cell? ⟨blk, off + a, none⟩ = some (.int .u32 ((G a : Nat) : Int)) := hc3 a (by omega)
                      obtain ⟨v3, hy3⟩ := cell?_setCell_some (w := W3) (p := ⟨blk, off + j', none⟩) (x := .int .u32 ((G a : Nat) : Int)) (q := ⟨blk, off + a, none⟩) cq
                      have hlj : j' < d.size := by omega
                      have hla : a < d.size := by omega
                      go_wp2_with fail
                      go_region
                      all_goals go_wp2_with fail
                      all_goals go_ret2
                      have e := pt_break a i j dk HI2.out HJ2.out (by omega)
                      have e2 := HE1.out
                      rw [← HE.out, e] at e2
                      refine ⟨by rw [e2]; rfl, n2 + nq + 1, ?_⟩
                      rw [e2]
                      repeat rw [HG.out]
                      exact rowW_swap HW3.out 1 (by omega) (by omega)
          · have hlz : decide (i' ≤ j') = false := decide_eq_false hle2
            have HJ2 := Lib.hid (HSD.out.symm.trans (dn_end (fun x => !ltN x dk[a]!) dk i' j' (.inl hle2)))
            go_wp2_with fail
            go_quiet ((go_at_call 164; exact Calls.quiet_of_same (less32_any _ _ _)))
            go_wp2_with fail
            obtain ⟨W3, hW3⟩ : ∃ W3, W3 = wr.drewN nq := ⟨_, rfl⟩
            have HW3 := Lib.hid (show W3 = rowW w blk off (n2 + nq) dk by rw [hW3, HW.out]; exact rowW_drewN _)
            have hc3 : ∀ t, t < d.size → W3.cell? ⟨blk, off + t, none⟩ = some (.int .u32 ((G t : Nat) : Int)) := fun t ht => by rw [hW3]; exact hcw t ht
            have hf3 : ∀ t, t < d.size → W3.frozen? ⟨blk, off + t, none⟩ = false := fun t ht => by rw [hW3]; exact hfw t ht
            rw [← hW3]
            clear hW3 hcw hfw HW
            have cq : W3.cell? ⟨blk, off + a, none⟩ = some (.int .u32 ((G a : Nat) : Int)) := hc3 a (by omega)
            obtain ⟨v3, hy3⟩ := cell?_setCell_some (w := W3) (p := ⟨blk, off + j', none⟩) (x := .int .u32 ((G a : Nat) : Int)) (q := ⟨blk, off + a, none⟩) cq
            have hlj : j' < d.size := by omega
            have hla : a < d.size := by omega
            go_wp2_with fail
            go_region
            all_goals go_wp2_with fail
            all_goals go_ret2
            have e := pt_first_break d a b pivot HIJ.out HDK.out HI2.out HJ2.out (by omega)
            refine ⟨by rw [e]; rfl, n2 + nq + 1, ?_⟩
            rw [e]
            repeat rw [HG.out]
            exact rowW_swap HW3.out 1 (by omega) (by omega)
    · have hlz : decide (i' ≤ j) = false := decide_eq_false hle
      have HI2 := Lib.hid (HSC.out.symm.trans (up_end (fun x => ltN x dk[a]!) dk j i' (.inl hle)))
      go_wp2_with fail
      go_quiet ((go_at_call 164; exact Calls.quiet_of_same (less32_any _ _ _)))
      go_wp2_with fail
      have HW2 := Lib.hid (show wr.drewN nq = rowW w blk off (n1 + nq) dk by rw [HW.out]; exact rowW_drewN _)
      clear HSC hcw hfw HW HG hlz
      go_loopw [11] (fun v wr => scD w blk off dk (fun x => !ltN x dk[a]!) i' j v wr) (fun v _ => (intOf v).toNat)
      case atStart => exact ⟨j, n1 + nq, rfl, Nat.le_refl _, by omega, HW2.out, rfl⟩
      case round =>
        clear HW2
        obtain ⟨j', n2, rfl, hjj, hij2, hw3, hsd⟩ := hrel
        have HSD := Lib.hid hsd
        clear hsd
        obtain ⟨G, hG⟩ : ∃ G : Nat → Nat, ∀ t, G t = dk[t]! := ⟨fun t => dk[t]!, fun _ => rfl⟩
        have hcw : ∀ t, t < d.size → wr.cell? ⟨blk, off + t, none⟩ = some (.int .u32 ((G t : Nat) : Int)) := fun t ht => by rw [hw3, hG]; exact rowW_cell HH.out hs ht
        have hfw : ∀ t, t < d.size → wr.frozen? ⟨blk, off + t, none⟩ = false := fun t ht => by rw [hw3]; exact rowW_frozen HH.out hs ht
        have HW := Lib.hid hw3
        have HG := Lib.hid hG
        clear hw3 hG
        have hle2 : ¬ i' ≤ j' := by omega
        have hlz : decide (i' ≤ j') = false := decide_eq_false hle2
        have HJ2 := Lib.hid (HSD.out.symm.trans (dn_end (fun x => !ltN x dk[a]!) dk i' j' (.inl hle2)))
        go_wp2_with fail
        go_quiet ((go_at_call 164; exact Calls.quiet_of_same (less32_any _ _ _)))
        go_wp2_with fail
        obtain ⟨W3, hW3⟩ : ∃ W3, W3 = wr.drewN nq := ⟨_, rfl⟩
        have HW3 := Lib.hid (show W3 = rowW w blk off (n2 + nq) dk by rw [hW3, HW.out]; exact rowW_drewN _)
        have hc3 : ∀ t, t < d.size → W3.cell? ⟨blk, off + t, none⟩ = some (.int .u32 ((G t : Nat) : Int)) := fun t ht => by rw [hW3]; exact hcw t ht
        have hf3 : ∀ t, t < d.size → W3.frozen? ⟨blk, off + t, none⟩ = false := fun t ht => by rw [hW3]; exact hfw t ht
        rw [← hW3]
        clear hW3 hcw hfw HW
        have cq : W3.cell? ⟨blk, off + a, none⟩ = some (.int .u32 ((G a : Nat) : Int)) := hc3 a (by omega)
        obtain ⟨v3, hy3⟩ := cell?_setCell_some (w := W3) (p := ⟨blk, off + j', none⟩) (x := .int .u32 ((G a : Nat) : Int)) (q := ⟨blk, off + a, none⟩) cq
        have hlj : j' < d.size := by omega
        have hla : a < d.size := by omega
        go_wp2_with fail
        go_region
        all_goals go_wp2_with fail
        all_goals go_ret2
        have e := pt_first_break d a b pivot HIJ.out HDK.out HI2.out HJ2.out (by omega)
        refine ⟨by rw [e]; rfl, n2 + nq + 1, ?_⟩
        rw [e]
        repeat rw [HG.out]
        exact rowW_swap HW3.out 1 (by omega) (by omega)
end Go.Proofs.YtcklfffeimnfeaaGreat
