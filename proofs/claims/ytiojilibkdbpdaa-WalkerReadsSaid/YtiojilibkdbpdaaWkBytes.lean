/- Walkers' bytes. No program in sight. -/
import Derived.Test.YtiojilibkdbpdaaJobWalk
namespace Go.Proofs.Ytiojilibkdbpdaa
set_option linter.unusedSimpArgs false
set_option linter.unusedVariables false
set_option maxRecDepth 100000
open Go.RowKit

def nums (x : WkD) : List Nat := [x.id, x.step, x.at_, x.prev, x.next, x.try_, x.state]
/-- the lowest k bytes of a number, the lowest one first -/
def leb (n : Nat) : Nat → List UInt8
  | 0 => []
  | k + 1 => leb n k ++ [UInt8.ofNat (n / 256 ^ k)]
theorem leb_len (n k : Nat) : (leb n k).length = k := by
  induction k with
  | zero => rfl
  | succ k ih => rw [leb, List.length_append, ih]; rfl
def le4 (n : Nat) : List UInt8 := leb n 4
theorem le4_eq (n : Nat) : le4 n = [UInt8.ofNat n, UInt8.ofNat (n / 256), UInt8.ofNat (n / 65536), UInt8.ofNat (n / 16777216)] := by
  simp [le4, leb]
def wkB (x : WkD) : List UInt8 := (nums x).flatMap le4
def manyB (l : List WkD) : List UInt8 := l.flatMap wkB
theorem flat4 (l : List Nat) : (l.flatMap le4).length = 4 * l.length := by
  induction l with
  | nil => rfl
  | cons a l ih => rw [List.flatMap_cons, List.length_append, ih, le4, leb_len, List.length_cons]; omega
theorem wkB_len (x : WkD) : (wkB x).length = 28 := by rw [wkB, flat4]; rfl
theorem manyB_len (l : List WkD) : (manyB l).length = 28 * l.length := by
  induction l with
  | nil => rfl
  | cons a l ih => rw [manyB, List.flatMap_cons, List.length_append, wkB_len]; unfold manyB at ih; rw [ih, List.length_cons]; omega
theorem manyB_take (l : List WkD) (k : Nat) (h : k < l.length) : manyB (l.take (k + 1)) = manyB (l.take k) ++ wkB l[k] := by
  rw [manyB, take_next l k h, List.flatMap_append]; simp [manyB]
theorem numsB_take (l : List Nat) (k : Nat) (h : k < l.length) : (l.take (k + 1)).flatMap le4 = (l.take k).flatMap le4 ++ le4 l[k] := by
  rw [take_next l k h, List.flatMap_append]; simp

/-- of four bytes -/
def num4 (b : List UInt8) : Nat := b[0]!.toNat + 256 * b[1]!.toNat + 65536 * b[2]!.toNat + 16777216 * b[3]!.toNat
theorem num4_lt (b : List UInt8) : num4 b < 4294967296 := by
  unfold num4
  have h0 := b[0]!.toNat_lt
  have h1 := b[1]!.toNat_lt
  have h2 := b[2]!.toNat_lt
  have h3 := b[3]!.toNat_lt
  omega
theorem num4_le4 (n : Nat) (h : n < 4294967296) (r : List UInt8) : num4 (le4 n ++ r) = n := by
  rw [le4_eq]
  unfold num4
  simp only [List.cons_append, List.nil_append, List.getElem!_cons_zero, List.getElem!_cons_succ, UInt8.toNat_ofNat']
  omega
theorem num4_app (b r : List UInt8) (h : 4 ≤ b.length) : num4 (b ++ r) = num4 b := by
  match b, h with
  | a :: b :: c :: d :: l, _ => simp [num4]
theorem le4_num4 (b : List UInt8) (h : b.length = 4) : le4 (num4 b) = b := by
  match b, h with
  | [a, b, c, d], _ =>
    have ha := a.toNat_lt
    have hb := b.toNat_lt
    have hc := c.toNat_lt
    have hd := d.toNat_lt
    have e : num4 [a, b, c, d] = a.toNat + 256 * b.toNat + 65536 * c.toNat + 16777216 * d.toNat := by simp [num4]
    rw [le4_eq, e]
    have hh : ∀ (x : UInt8) (n : Nat), n % 256 = x.toNat → UInt8.ofNat n = x := fun x n h => UInt8.toNat_inj.1 (by rw [UInt8.toNat_ofNat']; exact h)
    rw [hh a _ (by omega), hh b _ (by omega), hh c _ (by omega), hh d _ (by omega)]
def readW (b : List UInt8) : WkD := ⟨num4 b, num4 (b.drop 4), num4 (b.drop 8), num4 (b.drop 12), num4 (b.drop 16), num4 (b.drop 20), num4 (b.drop 24)⟩
theorem readW_ok (b : List UInt8) : WkOk (readW b) := ⟨num4_lt _, num4_lt _, num4_lt _, num4_lt _, num4_lt _, num4_lt _, num4_lt _⟩
/-- the walkers of the bytes in front, as many -/
def readMany : Nat → List UInt8 → List WkD
  | 0, _ => []
  | n + 1, b => readW b :: readMany n (b.drop 28)
theorem readMany_len (n : Nat) (b : List UInt8) : (readMany n b).length = n := by
  induction n generalizing b with
  | zero => rfl
  | succ n ih => rw [readMany, List.length_cons, ih]
theorem readMany_snoc (n : Nat) (b : List UInt8) : readMany (n + 1) b = readMany n b ++ [readW (b.drop (28 * n))] := by
  induction n generalizing b with
  | zero => rfl
  | succ n ih =>
    rw [readMany, ih, readMany]
    simp only [List.cons_append, List.drop_drop]
    rw [show 28 + 28 * n = 28 * (n + 1) from by omega]
theorem readW_wkB {x : WkD} (h : WkOk x) (r : List UInt8) : readW (wkB x ++ r) = x := by
  obtain ⟨a, b, c, d, e, f, g⟩ := x
  have e0 : wkB ⟨a, b, c, d, e, f, g⟩ ++ r = le4 a ++ (le4 b ++ (le4 c ++ (le4 d ++ (le4 e ++ (le4 f ++ (le4 g ++ r)))))) := by simp [wkB, nums]
  rw [e0]
  have dr : ∀ (n k : Nat) (l : List UInt8), 4 ≤ k → (le4 n ++ l).drop k = l.drop (k - 4) := fun n k l hk => by
    rw [List.drop_append, le4, leb_len, List.drop_eq_nil_of_le (by rw [leb_len]; omega), List.nil_append]
  unfold readW
  simp only [dr, Nat.reduceLeDiff, Nat.reduceSub, List.drop_zero, num4_le4 _ h.id, num4_le4 _ h.step, num4_le4 _ h.at_, num4_le4 _ h.prev, num4_le4 _ h.next, num4_le4 _ h.try_, num4_le4 _ h.state]
theorem readMany_manyB {l : List WkD} (h : ∀ x ∈ l, WkOk x) (r : List UInt8) : readMany l.length (manyB l ++ r) = l := by
  induction l with
  | nil => rfl
  | cons x l ih =>
    rw [List.length_cons, readMany]
    have e : manyB (x :: l) ++ r = wkB x ++ (manyB l ++ r) := by simp [manyB]
    rw [e, readW_wkB (h x (List.mem_cons_self ..)), List.drop_append, List.drop_eq_nil_of_le (by rw [wkB_len]; omega), wkB_len, Nat.sub_self, List.drop_zero, List.nil_append, ih (fun y hy => h y (List.mem_cons_of_mem _ hy))]
theorem wkB_readW (b : List UInt8) (h : 28 ≤ b.length) : wkB (readW b) = b.take 28 := by
  have hk : ∀ k, k + 4 ≤ b.length → le4 (num4 (b.drop k)) = (b.drop k).take 4 := fun k hk => by
    rw [← le4_num4 ((b.drop k).take 4) (by rw [List.length_take, List.length_drop]; omega)]
    congr 1
    have := num4_app ((b.drop k).take 4) ((b.drop k).drop 4) (by rw [List.length_take, List.length_drop]; omega)
    rw [List.take_append_drop] at this
    exact this
  have h0 := hk 0 (by omega)
  rw [List.drop_zero] at h0
  simp only [wkB, nums, readW, List.flatMap_cons, List.flatMap_nil, List.append_nil]
  rw [h0, hk 4 (by omega), hk 8 (by omega), hk 12 (by omega), hk 16 (by omega), hk 20 (by omega), hk 24 (by omega)]
  have st : ∀ k, b.take (k + 4) = b.take k ++ (b.drop k).take 4 := fun k => List.take_add ..
  rw [show (28 : Nat) = 24 + 4 from rfl, st 24, show (24 : Nat) = 20 + 4 from rfl, st 20, show (20 : Nat) = 16 + 4 from rfl, st 16, show (16 : Nat) = 12 + 4 from rfl, st 12, show (12 : Nat) = 8 + 4 from rfl, st 8, show (8 : Nat) = 4 + 4 from rfl, st 4]
  simp
theorem manyB_readMany (n : Nat) (b : List UInt8) (h : b.length = 28 * n) : manyB (readMany n b) = b := by
  induction n generalizing b with
  | zero => rw [List.eq_nil_of_length_eq_zero (by omega : b.length = 0)]; rfl
  | succ n ih =>
    rw [readMany, manyB, List.flatMap_cons, wkB_readW b (by omega)]
    have := ih (b.drop 28) (by rw [List.length_drop]; omega)
    unfold manyB at this
    rw [this, List.take_append_drop]
end Go.Proofs.Ytiojilibkdbpdaa
