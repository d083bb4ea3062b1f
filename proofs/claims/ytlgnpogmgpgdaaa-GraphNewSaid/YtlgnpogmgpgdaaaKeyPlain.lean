/- Keys of twelve bytes: three numbers, the highest byte first. No program in sight. -/
import Derived.Test.YtlgnpogmgpgdaaaBytes
namespace Go.Proofs.Ytlgnpogmgpgdaaa
set_option linter.unusedSimpArgs false
set_option linter.unusedVariables false
set_option maxRecDepth 100000

def be4 (n : Nat) : List UInt8 := [UInt8.ofNat (n / 16777216), UInt8.ofNat (n / 65536), UInt8.ofNat (n / 256), UInt8.ofNat n]
def key3 (a b c : Nat) : List UInt8 := be4 a ++ be4 b ++ be4 c
theorem key3_len (a b c : Nat) : (key3 a b c).length = 12 := rfl
/-- a number of bytes -/
def num4 (l : List UInt8) : Nat := l.foldl (fun n c => n * 256 + c.toNat) 0
def keyOf (l : List UInt8) : Nat × Nat × Nat := (num4 (l.take 4), num4 ((l.drop 4).take 4), num4 ((l.drop 8).take 4))
theorem u8n (n : Nat) : (UInt8.ofNat n).toNat = n % 256 := by simp
theorem num4_be4 (n : Nat) (h : n < 4294967296) : num4 (be4 n) = n := by
  simp only [num4, be4, List.foldl_cons, List.foldl_nil, u8n]; omega
theorem keyOf_key3 (a b c : Nat) (ha : a < 4294967296) (hb : b < 4294967296) (hc : c < 4294967296) : keyOf (key3 a b c) = (a, b, c) := by
  unfold keyOf
  rw [show (key3 a b c).take 4 = be4 a from rfl, show ((key3 a b c).drop 4).take 4 = be4 b from rfl, show ((key3 a b c).drop 8).take 4 = be4 c from rfl, num4_be4 a ha, num4_be4 b hb, num4_be4 c hc]
theorem be4_num4 (a b c d : UInt8) : be4 (num4 [a, b, c, d]) = [a, b, c, d] := by
  have h1 := a.toNat_lt; have h2 := b.toNat_lt; have h3 := c.toNat_lt; have h4 := d.toNat_lt
  simp only [num4, be4, List.foldl_cons, List.foldl_nil]
  simp only [List.cons.injEq, and_true, ← UInt8.toNat_inj, u8n]
  omega
theorem num4_lt (a b c d : UInt8) : num4 [a, b, c, d] < 4294967296 := by
  have h1 := a.toNat_lt; have h2 := b.toNat_lt; have h3 := c.toNat_lt; have h4 := d.toNat_lt
  simp only [num4, List.foldl_cons, List.foldl_nil]; omega
theorem twelve (l : List UInt8) (h : l.length = 12) : ∃ a b c d e f g i j k m n, l = [a, b, c, d, e, f, g, i, j, k, m, n] := by
  match l, h with
  | [a, b, c, d, e, f, g, i, j, k, m, n], _ => exact ⟨a, b, c, d, e, f, g, i, j, k, m, n, rfl⟩
theorem key3_keyOf (l : List UInt8) (h : l.length = 12) : key3 (keyOf l).1 (keyOf l).2.1 (keyOf l).2.2 = l ∧ (keyOf l).1 < 4294967296 ∧ (keyOf l).2.1 < 4294967296 ∧ (keyOf l).2.2 < 4294967296 := by
  obtain ⟨a, b, c, d, e, f, g, i, j, k, m, n, rfl⟩ := twelve l h
  refine ⟨?_, num4_lt a b c d, num4_lt e f g i, num4_lt j k m n⟩
  show be4 (num4 [a, b, c, d]) ++ be4 (num4 [e, f, g, i]) ++ be4 (num4 [j, k, m, n]) = _
  rw [be4_num4, be4_num4, be4_num4]; rfl
/-- of two keys the lower one is that of the lower numbers -/
theorem be4_lt (a b : Nat) (r s : List UInt8) (ha : a < 4294967296) (hb : b < 4294967296) : (be4 a ++ r < be4 b ++ s) ↔ (a < b ∨ (a = b ∧ r < s)) := by
  simp only [be4, List.cons_append, List.nil_append, List.cons_lt_cons_iff, UInt8.lt_iff_toNat_lt, ← UInt8.toNat_inj, u8n]
  have dig : ∀ n : Nat, n < 4294967296 → n / 16777216 % 256 < 256 ∧ n / 65536 % 256 < 256 ∧ n / 256 % 256 < 256 ∧ n % 256 < 256 ∧ n = n / 16777216 % 256 * 16777216 + n / 65536 % 256 * 65536 + n / 256 % 256 * 256 + n % 256 := by
    intro n hn
    have p1 : n / 256 / 256 = n / 65536 := by rw [Nat.div_div_eq_div_mul]
    have p2 : n / 65536 / 256 = n / 16777216 := by rw [Nat.div_div_eq_div_mul]
    omega
  have da := dig a ha
  have db := dig b hb
  generalize a / 16777216 % 256 = a3 at *
  generalize a / 65536 % 256 = a2 at *
  generalize a / 256 % 256 = a1 at *
  generalize a % 256 = a0 at *
  generalize b / 16777216 % 256 = b3 at *
  generalize b / 65536 % 256 = b2 at *
  generalize b / 256 % 256 = b1 at *
  generalize b % 256 = b0 at *
  clear dig
  constructor
  · rintro (h | ⟨h1, (h | ⟨h2, (h | ⟨h3, (h | ⟨h4, h⟩)⟩)⟩)⟩)
    · left; omega
    · left; omega
    · left; omega
    · left; omega
    · right; exact ⟨by omega, h⟩
  · rintro (h | ⟨h0, h⟩)
    · by_cases h1 : a3 < b3
      · exact .inl h1
      · right
        refine ⟨by omega, ?_⟩
        by_cases h2 : a2 < b2
        · exact .inl h2
        · right
          refine ⟨by omega, ?_⟩
          by_cases h3 : a1 < b1
          · exact .inl h3
          · exact .inr ⟨by omega, .inl (by omega)⟩
    · exact .inr ⟨by omega, .inr ⟨by omega, .inr ⟨by omega, .inr ⟨by omega, h⟩⟩⟩⟩
theorem key3_lt (a b c x y z : Nat) (ha : a < 4294967296) (hb : b < 4294967296) (hc : c < 4294967296) (hx : x < 4294967296) (hy : y < 4294967296) (hz : z < 4294967296) :
    (key3 a b c < key3 x y z) ↔ (a < x ∨ (a = x ∧ (b < y ∨ (b = y ∧ c < z)))) := by
  unfold key3
  rw [List.append_assoc, List.append_assoc, be4_lt _ _ _ _ ha hx, be4_lt _ _ _ _ hb hy]
  have := be4_lt c z [] [] hc hz
  simp only [List.append_nil, List.lt_irrefl, and_false, or_false] at this
  rw [this]
end Go.Proofs.Ytlgnpogmgpgdaaa
