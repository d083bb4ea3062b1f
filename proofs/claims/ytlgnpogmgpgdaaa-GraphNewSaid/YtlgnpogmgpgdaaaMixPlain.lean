/- Mixing is one to one, step by step: plain numbers, no program in sight. -/
import Derived.Test.YtlgnpogmgpgdaaaBase
import Derived.Laws.Bits64
namespace Go.Proofs.Ytlgnpogmgpgdaaa
set_option linter.unusedSimpArgs false
set_option linter.unusedVariables false
set_option maxRecDepth 100000
open Go.RowKit

def shx (k : Int) (n : Int) : Int := bits BinOp.xor IntKind.u64 n (n / k)
def mixZ (n : Int) : Int :=
  shx 2147483648 (IntKind.u64.wrap (shx 134217728 (IntKind.u64.wrap (shx 1073741824 (IntKind.u64.wrap (n + 11400714819323198485)) * 13787848793156543929)) * 10723151780598845931))
def drawZ (s w t a : Int) : Int := mixZ (bits BinOp.xor IntKind.u64 (mixZ (bits BinOp.xor IntKind.u64 (mixZ (bits BinOp.xor IntKind.u64 (mixZ s) w)) t)) a)

def adN (n : Nat) : Nat := (n + 11400714819323198485) % 18446744073709551616
def muN (k c n : Nat) : Nat := (n ^^^ n / k) * c % 18446744073709551616
def shN (k n : Nat) : Nat := n ^^^ n / k
def mixN (n : Nat) : Nat := shN 2147483648 (muN 134217728 10723151780598845931 (muN 1073741824 13787848793156543929 (adN n)))
theorem adN_lt (n : Nat) : adN n < 18446744073709551616 := Nat.mod_lt _ (by decide)
theorem muN_lt (k c n : Nat) : muN k c n < 18446744073709551616 := Nat.mod_lt _ (by decide)
theorem adZ (n : Nat) : IntKind.u64.wrap ((n : Int) + 11400714819323198485) = (adN n : Int) := by
  unfold adN; rw [IntKind.wrap_u64, Int.natCast_emod, Int.natCast_add]; rfl
theorem muZ (k c n : Nat) (h : n < 18446744073709551616) : IntKind.u64.wrap (shx (k : Int) (n : Int) * (c : Int)) = (muN k c n : Int) := mixStep_u64 n k c h
theorem shZ (k n : Nat) (h : n < 18446744073709551616) : shx (k : Int) (n : Int) = (shN k n : Int) := xorShift_u64 n k h

theorem mixZ_nat (n : Nat) : mixZ (n : Int) = (mixN n : Int) := by
  have e1 := muZ 1073741824 13787848793156543929 (adN n) (adN_lt n)
  have e2 := muZ 134217728 10723151780598845931 (muN 1073741824 13787848793156543929 (adN n)) (muN_lt _ _ _)
  have e3 := shZ 2147483648 (muN 134217728 10723151780598845931 (muN 1073741824 13787848793156543929 (adN n))) (muN_lt _ _ _)
  rw [← e1] at e2
  rw [← e2, ← adZ] at e3
  exact e3

theorem xor_lt (a b : Nat) (ha : a < 18446744073709551616) (hb : b < 18446744073709551616) : a ^^^ b < 18446744073709551616 :=
  Nat.xor_lt_two_pow (n := 64) (by omega) (by omega)

theorem shN_lt (k n : Nat) (h : n < 18446744073709551616) : shN k n < 18446744073709551616 := xor_lt _ _ h (Nat.lt_of_le_of_lt (Nat.div_le_self _ _) h)
theorem mixN_lt (n : Nat) : mixN n < 18446744073709551616 := shN_lt _ _ (muN_lt _ _ _)

theorem shift_inj (k x y : Nat) (hk : 0 < k) (hx : x < 18446744073709551616) (hy : y < 18446744073709551616) (h : x ^^^ x / 2 ^ k = y ^^^ y / 2 ^ k) : x = y := by
  have key : ∀ n i, 64 - i ≤ n → x.testBit i = y.testBit i := by
    intro n
    induction n with
    | zero =>
      intro i hi
      have h2 : 2 ^ 64 ≤ 2 ^ i := Nat.pow_le_pow_right (by omega) (by omega)
      rw [Nat.testBit_lt_two_pow (by omega), Nat.testBit_lt_two_pow (by omega)]
    | succ n ih =>
      intro i hi
      have h1 := congrArg (fun z => Nat.testBit z i) h
      simp only [Nat.testBit_xor, Nat.testBit_div_two_pow] at h1
      have h2 : x.testBit (i + k) = y.testBit (i + k) := by
        by_cases hik : 64 ≤ i
        · have h2 : 2 ^ 64 ≤ 2 ^ (i + k) := Nat.pow_le_pow_right (by omega) (by omega)
          rw [Nat.testBit_lt_two_pow (by omega), Nat.testBit_lt_two_pow (by omega)]
        · exact ih (i + k) (by omega)
      rw [h2] at h1
      cases hxi : x.testBit i <;> cases hyi : y.testBit i <;> simp_all
  exact Nat.eq_of_testBit_eq fun i => key 64 i (by omega)

theorem mul_inj (c d x y : Nat) (hcd : c * d % 18446744073709551616 = 1) (hx : x < 18446744073709551616) (hy : y < 18446744073709551616) (h : x * c % 18446744073709551616 = y * c % 18446744073709551616) : x = y := by
  have f : ∀ z, z < 18446744073709551616 → (z * c % 18446744073709551616) * d % 18446744073709551616 = z := by
    intro z hz
    rw [Nat.mod_mul_mod, Nat.mul_assoc, ← Nat.mul_mod_mod, hcd, Nat.mul_one, Nat.mod_eq_of_lt hz]
  rw [← f x hx, ← f y hy, h]

theorem adN_inj (x y : Nat) (hx : x < 18446744073709551616) (hy : y < 18446744073709551616) (h : adN x = adN y) : x = y := by
  unfold adN at h; omega
theorem muN_inj (k c d x y : Nat) (hk : 0 < k) (hcd : c * d % 18446744073709551616 = 1) (hx : x < 18446744073709551616) (hy : y < 18446744073709551616) (h : muN (2 ^ k) c x = muN (2 ^ k) c y) : x = y :=
  shift_inj k x y hk hx hy (mul_inj c d _ _ hcd (shN_lt _ _ hx) (shN_lt _ _ hy) h)
theorem mixN_inj (x y : Nat) (hx : x < 18446744073709551616) (hy : y < 18446744073709551616) (h : mixN x = mixN y) : x = y := by
  have h1 := shift_inj 31 _ _ (by decide) (muN_lt _ _ _) (muN_lt _ _ _) h
  have h2 := muN_inj 27 10723151780598845931 3573116690164977347 _ _ (by decide) (by decide +kernel) (muN_lt _ _ _) (muN_lt _ _ _) h1
  have h3 := muN_inj 30 13787848793156543929 10871156337175269513 _ _ (by decide) (by decide +kernel) (adN_lt _) (adN_lt _) h2
  exact adN_inj x y hx hy h3

def drawN (s w t a : Nat) : Nat := mixN (mixN (mixN (mixN s ^^^ w) ^^^ t) ^^^ a)

theorem drawZ_nat (s w t a : Nat) (hw : w < 18446744073709551616) (ht : t < 18446744073709551616) (ha : a < 18446744073709551616) :
    drawZ s w t a = (drawN s w t a : Int) := by
  unfold drawZ drawN
  rw [mixZ_nat, bits_xor_u64_nat _ _ (mixN_lt _) hw, mixZ_nat, bits_xor_u64_nat _ _ (mixN_lt _) ht, mixZ_nat, bits_xor_u64_nat _ _ (mixN_lt _) ha, mixZ_nat]

theorem xor_cancel (a b c : Nat) (h : a ^^^ b = a ^^^ c) : b = c := by
  have := congrArg (a ^^^ ·) h
  simpa [← Nat.xor_assoc] using this
theorem xor_cancel' (a b c : Nat) (h : b ^^^ a = c ^^^ a) : b = c := xor_cancel a b c (by rwa [Nat.xor_comm a b, Nat.xor_comm a c])

theorem drawN_a (s w t a b : Nat) (ha : a < 18446744073709551616) (hb : b < 18446744073709551616) (h : drawN s w t a = drawN s w t b) : a = b :=
  xor_cancel _ _ _ (mixN_inj _ _ (xor_lt _ _ (mixN_lt _) ha) (xor_lt _ _ (mixN_lt _) hb) h)
theorem drawN_t (s w t a b : Nat) (hb : b < 18446744073709551616) (ht : t < 18446744073709551616) (ha : a < 18446744073709551616) (h : drawN s w t a = drawN s w b a) : t = b := by
  have h1 := xor_cancel' _ _ _ (mixN_inj _ _ (xor_lt _ _ (mixN_lt _) ha) (xor_lt _ _ (mixN_lt _) ha) h)
  exact xor_cancel _ _ _ (mixN_inj _ _ (xor_lt _ _ (mixN_lt _) ht) (xor_lt _ _ (mixN_lt _) hb) h1)
theorem drawN_w (s w t a b : Nat) (hw : w < 18446744073709551616) (ht : t < 18446744073709551616) (ha : a < 18446744073709551616) (hb : b < 18446744073709551616) (h : drawN s w t a = drawN s b t a) : w = b := by
  have h1 := xor_cancel' _ _ _ (mixN_inj _ _ (xor_lt _ _ (mixN_lt _) ha) (xor_lt _ _ (mixN_lt _) ha) h)
  have h2 := xor_cancel' _ _ _ (mixN_inj _ _ (xor_lt _ _ (mixN_lt _) ht) (xor_lt _ _ (mixN_lt _) ht) h1)
  exact xor_cancel _ _ _ (mixN_inj _ _ (xor_lt _ _ (mixN_lt _) hw) (xor_lt _ _ (mixN_lt _) hb) h2)
theorem drawN_s (s w t a b : Nat) (hs : s < 18446744073709551616) (hw : w < 18446744073709551616) (ht : t < 18446744073709551616) (ha : a < 18446744073709551616) (hb : b < 18446744073709551616) (h : drawN s w t a = drawN b w t a) : s = b := by
  have h1 := xor_cancel' _ _ _ (mixN_inj _ _ (xor_lt _ _ (mixN_lt _) ha) (xor_lt _ _ (mixN_lt _) ha) h)
  have h2 := xor_cancel' _ _ _ (mixN_inj _ _ (xor_lt _ _ (mixN_lt _) ht) (xor_lt _ _ (mixN_lt _) ht) h1)
  have h3 := xor_cancel' _ _ _ (mixN_inj _ _ (xor_lt _ _ (mixN_lt _) hw) (xor_lt _ _ (mixN_lt _) hw) h2)
  exact mixN_inj _ _ hs hb h3

/-- a number of Go's uint64, as a natural number -/
theorem u64_nat {n : Int} (h : (Lit.int .u64 n).wf = true) : ∃ m : Nat, n = m ∧ m < 18446744073709551616 := by
  have h' : 0 ≤ n ∧ n ≤ 18446744073709551615 := by simpa [Lit.wf, IntKind.min, IntKind.max, IntKind.signed, IntKind.bits] using h
  exact ⟨n.toNat, by omega, by omega⟩

/-- unlike draws, just where the tapes are unlike -/
theorem apart_a (s w t a b : Int) (hs : (Lit.int .u64 s).wf = true) (hw : (Lit.int .u64 w).wf = true) (ht : (Lit.int .u64 t).wf = true) (ha : (Lit.int .u64 a).wf = true) (hb : (Lit.int .u64 b).wf = true) :
    (drawZ s w t a == drawZ s w t b) = (a == b) ∧ (drawZ s w t a == drawZ s w b a) = (t == b) ∧ (drawZ s w t a == drawZ s b t a) = (w == b) ∧ (drawZ s w t a == drawZ b w t a) = (s == b) := by
  obtain ⟨s, rfl, ls⟩ := u64_nat hs
  obtain ⟨w, rfl, lw⟩ := u64_nat hw
  obtain ⟨t, rfl, lt⟩ := u64_nat ht
  obtain ⟨a, rfl, la⟩ := u64_nat ha
  obtain ⟨b, rfl, lb⟩ := u64_nat hb
  rw [drawZ_nat s w t a lw lt la, drawZ_nat s w t b lw lt lb, drawZ_nat s w b a lw lb la, drawZ_nat s b t a lb lt la, drawZ_nat b w t a lw lt la]
  have e : ∀ x y : Nat, ((x : Int) == (y : Int)) = (x == y) := fun x y => by rw [Bool.eq_iff_iff, beq_iff_eq, beq_iff_eq]; exact Int.ofNat_inj
  simp only [e]
  refine ⟨?_, ?_, ?_, ?_⟩ <;> rw [Bool.eq_iff_iff, beq_iff_eq, beq_iff_eq]
  · exact ⟨drawN_a s w t a b la lb, fun h => by rw [h]⟩
  · exact ⟨drawN_t s w t a b lb lt la, fun h => by rw [h]⟩
  · exact ⟨drawN_w s w t a b lw lt la lb, fun h => by rw [h]⟩
  · exact ⟨drawN_s s w t a b ls lw lt la lb, fun h => by rw [h]⟩
end Go.Proofs.Ytlgnpogmgpgdaaa
