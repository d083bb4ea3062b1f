/- Texts merged into one: TextPlain, TextLib, TextEach, TextWords, TextRefW, TextSame, TextNum, TextRefN, TextLawW, TextPut, TextPutsW, TextRefL, TextLines, TextLinesW. -/
import Derived.Test.YtmflopeedofkhaaByBase
import Derived.Test.YtmflopeedofkhaaByRep
import Derived.Test.YtmflopeedofkhaaProg
import Derived.Laws.Externs
import Derived.Laws.Strings3
import Derived.RegionIn
import Derived.Lib.ConvBytes
import Derived.Laws.Concat
import Derived.Scope
namespace Go.Proofs.Ytmflopeedofkhaa
set_option linter.unusedSimpArgs false
set_option linter.unusedVariables false
set_option maxRecDepth 100000

/-! ### words -/
def isSp (c : UInt8) : Bool := c == 32 || c == 9
/-- the reference's way: byte by byte, 'w' the word so far -/
def wordsGo : List UInt8 → List UInt8 → List (List UInt8)
  | w, [] => if w = [] then [] else [w]
  | w, c :: cs => if isSp c then (if w = [] then wordsGo [] cs else w :: wordsGo [] cs) else wordsGo (w ++ [c]) cs
def words (l : List UInt8) : List (List UInt8) := wordsGo [] l

theorem wordsGo_plain : ∀ (p w r : List UInt8), (∀ c ∈ p, isSp c = false) → wordsGo w (p ++ r) = wordsGo (w ++ p) r
  | [], w, r, _ => by simp
  | c :: p, w, r, h => by
    rw [List.cons_append, wordsGo, h c (by simp)]
    simp only [Bool.false_eq_true, if_false]
    rw [wordsGo_plain p (w ++ [c]) r (fun d hd => h d (by simp [hd]))]
    simp
theorem words_cut (p r : List UInt8) (c : UInt8) (hc : isSp c = true) (h : ∀ d ∈ p, isSp d = false) : words (p ++ c :: r) = if p = [] then words r else p :: words r := by
  unfold words
  rw [wordsGo_plain p [] _ h, List.nil_append, wordsGo, hc]
  simp
theorem words_last (p : List UInt8) (h : ∀ d ∈ p, isSp d = false) : words p = if p = [] then [] else [p] := by
  have := wordsGo_plain p [] [] h
  rw [List.append_nil, List.nil_append] at this
  unfold words
  rw [this, wordsGo]

/-! ### lines -/
/-- the reference's way -/
def linesGo : List UInt8 → List UInt8 → List (List UInt8)
  | w, [] => if w = [] then [] else [w]
  | w, c :: cs => if c == 10 then w :: linesGo [] cs else linesGo (w ++ [c]) cs
def lines (l : List UInt8) : List (List UInt8) := linesGo [] l
theorem linesGo_plain : ∀ (p w r : List UInt8), (∀ c ∈ p, (c == 10) = false) → linesGo w (p ++ r) = linesGo (w ++ p) r
  | [], w, r, _ => by simp
  | c :: p, w, r, h => by
    rw [List.cons_append, linesGo, h c (by simp)]
    simp only [Bool.false_eq_true, if_false]
    rw [linesGo_plain p (w ++ [c]) r (fun d hd => h d (by simp [hd]))]
    simp
theorem lines_cut (p r : List UInt8) (h : ∀ d ∈ p, (d == 10) = false) : lines (p ++ 10 :: r) = p :: lines r := by
  unfold lines
  rw [linesGo_plain p [] _ h, List.nil_append, linesGo]
  simp
theorem lines_last (p : List UInt8) (h : ∀ d ∈ p, (d == 10) = false) : lines p = if p = [] then [] else [p] := by
  have := linesGo_plain p [] [] h
  rw [List.append_nil, List.nil_append] at this
  unfold lines
  rw [this, linesGo]

/-! ### numbers -/
def isDig (c : UInt8) : Bool := 48 ≤ c && c ≤ 57
def digV (c : UInt8) : Nat := c.toNat - 48
def valFrom (n : Nat) (l : List UInt8) : Nat := l.foldl (fun n c => 10 * n + digV c) n
def val (l : List UInt8) : Nat := valFrom 0 l
theorem valFrom_append (n : Nat) (a b : List UInt8) : valFrom n (a ++ b) = valFrom (valFrom n a) b := List.foldl_append
theorem valFrom_ge (l : List UInt8) : ∀ n, n ≤ valFrom n l := by
  induction l with
  | nil => exact fun n => Nat.le_refl n
  | cons c l ih => exact fun n => Nat.le_trans (by omega) (ih (10 * n + digV c))
theorem valFrom_mono (l : List UInt8) : ∀ n m, n ≤ m → valFrom n l ≤ valFrom m l := by
  induction l with
  | nil => exact fun n m h => h
  | cons c l ih => exact fun n m h => ih (10 * n + digV c) (10 * m + digV c) (by omega)
/-- the answer: the number, or the error's number (3: the form, 9: too great) -/
def bad3 (l : List UInt8) : Bool := l.isEmpty || (decide (1 < l.length) && l.head? == some 48) || !l.all isDig
def num (l : List UInt8) (most : Nat) : Nat × Nat := if bad3 l then (0, 3) else if most < val l then (0, 9) else (val l, 0)

/-- a number's digits -/
def digits (n : Nat) : List UInt8 := if n < 10 then [UInt8.ofNat (48 + n)] else digits (n / 10) ++ [UInt8.ofNat (48 + n % 10)]
theorem dig_isDig (k : Nat) (h : k < 10) : isDig (UInt8.ofNat (48 + k)) = true ∧ digV (UInt8.ofNat (48 + k)) = k := by
  have e : (UInt8.ofNat (48 + k)).toNat = 48 + k := by simp [UInt8.toNat_ofNat]; omega
  unfold isDig digV
  rw [Bool.and_eq_true, decide_eq_true_eq, decide_eq_true_eq, UInt8.le_iff_toNat_le, UInt8.le_iff_toNat_le, e]
  exact ⟨⟨by show 48 ≤ _; omega, by show _ ≤ 57; omega⟩, by omega⟩
theorem val_digits (n : Nat) : val (digits n) = n := by
  induction n using Nat.strongRecOn with
  | _ n ih =>
    rw [digits]
    split
    · rename_i h
      show 10 * 0 + digV _ = n
      rw [(dig_isDig n h).2]; omega
    · rename_i h
      unfold val at ih ⊢
      rw [valFrom_append, ih (n / 10) (by omega)]
      show 10 * (n / 10) + digV _ = n
      rw [(dig_isDig (n % 10) (by omega)).2]; omega
theorem digits_all (n : Nat) : (digits n).all isDig = true := by
  induction n using Nat.strongRecOn with
  | _ n ih =>
    rw [digits]
    split
    · rename_i h
      rw [List.all_cons, (dig_isDig n h).1]; rfl
    · rename_i h
      rw [List.all_append, ih (n / 10) (by omega)]
      rw [List.all_cons, (dig_isDig (n % 10) (by omega)).1]; rfl
theorem digits_ne (n : Nat) : digits n ≠ [] := by
  rw [digits]; split <;> simp
theorem digits_head (n : Nat) (h : 1 < (digits n).length) : (digits n).head? ≠ some 48 := by
  induction n using Nat.strongRecOn with
  | _ n ih =>
    rw [digits] at h ⊢
    split at h
    · simp at h
    · rename_i hn
      rw [if_neg hn]
      rw [List.head?_append]
      by_cases h1 : n / 10 < 10
      · have e : digits (n / 10) = [UInt8.ofNat (48 + n / 10)] := by rw [digits, if_pos h1]
        rw [e]
        simp only [List.head?_cons, Option.some_or, ne_eq, Option.some.injEq]
        intro hc
        have := (dig_isDig (n / 10) h1).2
        rw [hc] at this
        have h48 : digV 48 = 0 := rfl
        omega
      · have h2 : 1 < (digits (n / 10)).length := by
          rw [digits, if_neg h1, List.length_append, List.length_singleton]
          have := List.length_pos_iff.2 (digits_ne (n / 10 / 10))
          omega
        have := ih (n / 10) (by omega) h2
        cases hd : (digits (n / 10)).head? with
        | none => simp [List.head?_eq_none_iff] at hd; exact absurd hd (digits_ne _)
        | some c => rw [hd] at this; simpa using this
theorem bad3_digits (n : Nat) : bad3 (digits n) = false := by
  unfold bad3
  rw [digits_all]
  have h1 := digits_ne n
  by_cases h : 1 < (digits n).length
  · have := digits_head n h
    simp [h1, this]
  · simp [h, h1]
theorem num_digits (n most : Nat) : num (digits n) most = if most < n then (0, 9) else (n, 0) := by
  unfold num
  rw [bad3_digits, val_digits]
  rfl
theorem digits_len (n k : Nat) (hk : 1 ≤ k) (h : n < 10 ^ k) : (digits n).length ≤ k := by
  induction k generalizing n with
  | zero => omega
  | succ k ih =>
    rw [digits]
    split
    · simp
    · rename_i hn
      rw [List.length_append, List.length_singleton]
      have hk1 : 1 ≤ k := by
        rcases Nat.eq_zero_or_pos k with rfl | h0
        · simp at h; omega
        · exact h0
      have := ih (n / 10) hk1 (by rw [Nat.pow_succ] at h; omega)
      omega

/-! ### the greatest uint64's digits, against a word's -/
theorem valFrom_lt (l : List UInt8) (h : l.all isDig = true) : ∀ n, valFrom n l < (n + 1) * 10 ^ l.length := by
  induction l with
  | nil => intro n; simp [valFrom]
  | cons c l ih =>
    intro n
    simp only [List.all_cons, Bool.and_eq_true] at h
    have hd : digV c ≤ 9 := by
      have h1 := h.1
      unfold isDig at h1
      rw [Bool.and_eq_true, decide_eq_true_eq, decide_eq_true_eq, UInt8.le_iff_toNat_le, UInt8.le_iff_toNat_le] at h1
      have h2 : c.toNat ≤ 57 := h1.2
      unfold digV; omega
    have := ih h.2 (10 * n + digV c)
    show valFrom (10 * n + digV c) l < _
    refine Nat.lt_of_lt_of_le this ?_
    rw [List.length_cons, Nat.pow_succ, Nat.mul_comm (10 ^ l.length) 10, ← Nat.mul_assoc]
    exact Nat.mul_le_mul_right _ (by omega)
/-- of two words of digits of one length the greater one is the greater number -/
theorem lex_val : ∀ (a b : List UInt8), a.length = b.length → a.all isDig = true → b.all isDig = true → ∀ n m, (n < m → valFrom n a < valFrom m b) ∧ (m < n → valFrom m b < valFrom n a) ∧ (n = m → (decide (a < b) = decide (valFrom n a < valFrom m b)))
  | [], [], _, _, _, n, m => ⟨fun h => h, fun h => h, fun h => by subst h; simp [valFrom]⟩
  | c :: a, d :: b, hl, ha, hb, n, m => by
    simp only [List.length_cons] at hl
    have hl' : a.length = b.length := by omega
    simp only [List.all_cons, Bool.and_eq_true] at ha hb
    have dc : ∀ c : UInt8, isDig c = true → 48 ≤ c.toNat ∧ c.toNat ≤ 57 := by
      intro c h1
      unfold isDig at h1
      rw [Bool.and_eq_true, decide_eq_true_eq, decide_eq_true_eq, UInt8.le_iff_toNat_le, UInt8.le_iff_toNat_le] at h1
      exact h1
    have hc := dc c ha.1
    have hd := dc d hb.1
    have ih := lex_val a b hl' ha.2 hb.2
    refine ⟨fun h => (ih (10 * n + digV c) (10 * m + digV d)).1 (by unfold digV; omega), fun h => (ih (10 * n + digV c) (10 * m + digV d)).2.1 (by unfold digV; omega), fun h => ?_⟩
    subst h
    show decide (c :: a < d :: b) = decide (valFrom (10 * n + digV c) a < valFrom (10 * n + digV d) b)
    rcases Nat.lt_trichotomy c.toNat d.toNat with h | h | h
    · have h1 := (ih (10 * n + digV c) (10 * n + digV d)).1 (by unfold digV; omega)
      have h2 : c < d := UInt8.lt_iff_toNat_lt.2 h
      rw [decide_eq_true h1, decide_eq_true (List.cons_lt_cons_iff.2 (.inl h2))]
    · have hcd : c = d := UInt8.toNat_inj.1 h
      subst hcd
      rw [← (ih (10 * n + digV c) (10 * n + digV c)).2.2 rfl]
      have : (c :: a < c :: b) ↔ a < b := by rw [List.cons_lt_cons_iff]; simp [UInt8.lt_irrefl]
      rw [decide_eq_decide]; exact this
    · have h1 := (ih (10 * n + digV c) (10 * n + digV d)).2.1 (by unfold digV; omega)
      have h2 : ¬ (c :: a < d :: b) := by
        rw [List.cons_lt_cons_iff]
        rintro (h3 | ⟨h3, _⟩)
        · have := UInt8.lt_iff_toNat_lt.1 h3; omega
        · subst h3; omega
      rw [decide_eq_false h2, decide_eq_false (by omega)]
end Go.Proofs.Ytmflopeedofkhaa

namespace Go.Proofs.Ytmflopeedofkhaa
set_option linter.unusedSimpArgs false
set_option linter.unusedVariables false
set_option maxRecDepth 100000
open Go.RowKit

theorem size_toList (s : ByteArray) : s.data.toList.length = s.size := by rw [Array.length_toList]; rfl
theorem getBang (s : ByteArray) (i : Nat) (h : i < s.size) : s.data.toList[i]? = some s[i]! := by
  have h1 : i < s.data.size := h
  rw [Array.getElem?_toList, Array.getElem?_eq_getElem h1]
  rw [getElem!_pos s i h]
  rfl

/-- where a byte first stands in a text -/
theorem firstIdx_spec (s : ByteArray) (c : UInt8) :
    (firstIdx s c = -1 ∧ ∀ d ∈ s.data.toList, (d == c) = false) ∨
    ∃ i : Nat, firstIdx s c = i ∧ i < s.size ∧ s.data.toList[i]? = some c ∧ ∀ d ∈ s.data.toList.take i, (d == c) = false := by
  unfold firstIdx
  cases hf : (List.range s.size).find? fun i => s[i]! == c with
  | none =>
    left
    refine ⟨rfl, fun d hd => ?_⟩
    obtain ⟨i, hi, rfl⟩ := List.getElem_of_mem hd
    rw [List.find?_eq_none] at hf
    rw [size_toList] at hi
    have h1 := hf i (by simpa using hi)
    have h2 := getBang s i hi
    rw [List.getElem?_eq_getElem (by rw [size_toList]; exact hi)] at h2
    rw [Option.some.inj h2]
    simpa using h1
  | some i =>
    right
    rw [List.find?_range_eq_some] at hf
    obtain ⟨h1, h2, h3⟩ := hf
    have hi : i < s.size := by simpa using h2
    refine ⟨i, rfl, hi, ?_, ?_⟩
    · rw [getBang s i hi]; simpa using h1
    · intro d hd
      obtain ⟨j, hj, rfl⟩ := List.getElem_of_mem hd
      rw [List.length_take, size_toList] at hj
      have hji : j < i := by omega
      have h4 := h3 j hji
      have h5 := getBang s j (by omega)
      rw [List.getElem?_eq_getElem (by rw [size_toList]; omega)] at h5
      rw [List.getElem_take, Option.some.inj h5]
      simpa using h4

set_option maxHeartbeats 400000 in
theorem indexByteS_any (s : ByteArray) (c : Int) (w : World) :
    Calls Try.prog 77 #[.string s, .int .u8 c] w fun e w' => e = .returned (.int .i64 (firstIdx s c.toNat.toUInt8)) ∧ w = w' := by
  go_enter Try.func77, Try.ntmps77
  go_wp2
  rw [run_callFunc_extern Try.func87 (by kernel_rfl) (by kernel_rfl) (by kernel_rfl) (e := Extern.BytealgIndexByte.indexByte) (by kernel_rfl), run_indexByte_string]
  simp only [Result.andThen]
  rw [Oper.upon_value]
  go_wp2
  go_ret
  exact ⟨rfl, rfl⟩

set_option maxHeartbeats 400000 in
theorem indexByte_any (s : ByteArray) (c : Int) (w : World) :
    Calls Try.prog 59 #[.string s, .int .u8 c] w fun e w' => e = .returned (.int .i64 (firstIdx s c.toNat.toUInt8)) ∧ w = w' := by
  go_enter Try.func59, Try.ntmps59
  go_wp2_with (go_at_call 77; refine (indexByteS_any _ _ _).mono ?_; rintro e w' ⟨rfl, rfl⟩)
  go_ret
  exact ⟨rfl, rfl⟩

theorem mul10 (n : Nat) (hn : n < 18446744073709551616) : ∃ hi lo : Nat, n * 10 = hi * 18446744073709551616 + lo ∧ lo < 18446744073709551616 ∧ hi < 10 := ⟨n * 10 / 18446744073709551616, n * 10 % 18446744073709551616, by omega, by omega, by omega⟩

set_option maxHeartbeats 1000000 in
theorem mul64_any (x : Nat) (hx : x < 18446744073709551616) (w : World) :
    Calls Try.prog 74 #[.int .u64 x, .int .u64 10] w fun e w' => e = .returned (.tuple #[.int .u64 ((x * 10 / 18446744073709551616 : Nat) : Int), .int .u64 ((x * 10 % 18446744073709551616 : Nat) : Int)]) ∧ w = w' := by
  have mk : ∀ a : Nat, a < 18446744073709551616 → bits .and .u64 (a : Int) 4294967295 = (a : Int) % 4294967296 := fun a ha => by
    have h := bits_and_u64_nat a 4294967295 ha (by omega)
    have e : a &&& 4294967295 = a % 4294967296 := Nat.and_two_pow_sub_one_eq_mod a 32
    rw [e] at h
    rw [Int.natCast_emod] at h
    exact h
  have h1 := mk x hx
  have h2 : bits .and .u64 10 4294967295 = 10 := mk 10 (by omega)
  have h3 : bits .and .u64 ((x : Int) / 4294967296 * 10 + (x : Int) % 4294967296 * 10 / 4294967296) 4294967295 = ((x : Int) / 4294967296 * 10 + (x : Int) % 4294967296 * 10 / 4294967296) % 4294967296 := by
    have h := mk (x / 4294967296 * 10 + x % 4294967296 * 10 / 4294967296) (by omega)
    simpa using h
  have hx' : (x : Int) < 18446744073709551616 := by omega
  clear mk
  go_enter Try.func74, Try.ntmps74
  go_wp2
  go_ret2
  refine ⟨?_, rfl⟩
  have ehi : ((x : Int) / 4294967296 * 10 + (x : Int) % 4294967296 * 10 / 4294967296) / 4294967296 + ((x : Int) / 4294967296 * 10 + (x : Int) % 4294967296 * 10 / 4294967296) % 4294967296 / 4294967296 = ((x * 10 / 18446744073709551616 : Nat) : Int) := by omega
  have elo : IntKind.u64.wrap ((x : Int) * 10) = ((x * 10 % 18446744073709551616 : Nat) : Int) := by rw [IntKind.wrap_u64]; omega
  rw [← ehi, ← elo]
  rfl

set_option maxHeartbeats 1000000 in
theorem add64_run (x y : Int) (hx : 0 ≤ x) (hy : 0 ≤ y) (w : World) :
    (callFunc 75 #[.int .u64 x, .int .u64 y, .int .u64 0]).run Try.prog w = .ok (.value (.tuple #[.int .u64 ((x + y) % 18446744073709551616), .int .u64 ((x + y) / 18446744073709551616)])) w := by
  rw [run_callFunc_extern Try.func75 (by kernel_rfl) (by kernel_rfl) (by kernel_rfl) (e := add64Entry) (by kernel_rfl), run_add64 x y 0 hx hy (by omega) (by omega)]
  simp [Result.andThen]
end Go.Proofs.Ytmflopeedofkhaa

namespace Go.Proofs.Ytmflopeedofkhaa
set_option linter.unusedSimpArgs false
set_option linter.unusedVariables false
set_option maxRecDepth 100000
open Go.RowKit

/-- the length of a text in a cell -/
def strLen : Option Value → Nat
  | some (.string s) => s.size
  | _ => 0

theorem isSp_or (d : UInt8) : isSp d = false ↔ (d == 32) = false ∧ (d == 9) = false := by
  unfold isSp; cases d == 32 <;> cases d == 9 <;> simp

theorem cutCase (rem : List UInt8) :
    (firstIdx (bs rem) 32 = -1 ∧ firstIdx (bs rem) 9 = -1 ∧ ∀ d ∈ rem, isSp d = false) ∨
    ∃ p c r, rem = p ++ c :: r ∧ isSp c = true ∧ (∀ d ∈ p, isSp d = false) ∧
      ((firstIdx (bs rem) 9 = p.length ∧ firstIdx (bs rem) 32 = -1) ∨ (firstIdx (bs rem) 9 = p.length ∧ (p.length : Int) < firstIdx (bs rem) 32) ∨
       (firstIdx (bs rem) 32 = p.length ∧ firstIdx (bs rem) 9 = -1) ∨ (firstIdx (bs rem) 32 = p.length ∧ (p.length : Int) < firstIdx (bs rem) 9)) := by
  have h1 := firstIdx_spec (bs rem) 32
  have h2 := firstIdx_spec (bs rem) 9
  rw [bs_data, bs_size] at h1 h2
  have cut : ∀ (c : UInt8) (i : Nat), i < rem.length → rem[i]? = some c → rem = rem.take i ++ c :: rem.drop (i + 1) := by
    intro c i hi hc
    rw [List.getElem?_eq_getElem hi] at hc
    conv => lhs; rw [← List.take_append_drop i rem, List.drop_eq_getElem_cons hi, Option.some.inj hc]
  have sub : ∀ (i j : Nat) (d : UInt8), i ≤ j → d ∈ rem.take i → d ∈ rem.take j := by
    intro i j d hij hd
    rw [show rem.take i = (rem.take j).take i from by rw [List.take_take, Nat.min_eq_left hij]] at hd
    exact List.mem_of_mem_take hd
  rcases h1 with ⟨e1, a1⟩ | ⟨i, e1, l1, c1, a1⟩
  · rcases h2 with ⟨e2, a2⟩ | ⟨j, e2, l2, c2, a2⟩
    · exact .inl ⟨e1, e2, fun d hd => (isSp_or d).2 ⟨a1 d hd, a2 d hd⟩⟩
    · refine .inr ⟨rem.take j, 9, rem.drop (j + 1), cut 9 j l2 c2, rfl, fun d hd => (isSp_or d).2 ⟨a1 d (List.mem_of_mem_take hd), a2 d hd⟩, .inl ⟨?_, e1⟩⟩
      rw [e2, List.length_take, Nat.min_eq_left (by omega)]
  · rcases h2 with ⟨e2, a2⟩ | ⟨j, e2, l2, c2, a2⟩
    · refine .inr ⟨rem.take i, 32, rem.drop (i + 1), cut 32 i l1 c1, rfl, fun d hd => (isSp_or d).2 ⟨a1 d hd, a2 d (List.mem_of_mem_take hd)⟩, .inr (.inr (.inl ⟨?_, e2⟩))⟩
      rw [e1, List.length_take, Nat.min_eq_left (by omega)]
    · rcases Nat.lt_trichotomy i j with h | h | h
      · refine .inr ⟨rem.take i, 32, rem.drop (i + 1), cut 32 i l1 c1, rfl, fun d hd => (isSp_or d).2 ⟨a1 d hd, a2 d (sub i j d (by omega) hd)⟩, .inr (.inr (.inr ⟨?_, ?_⟩))⟩
        · rw [e1, List.length_take, Nat.min_eq_left (by omega)]
        · rw [e2, List.length_take, Nat.min_eq_left (by omega)]; omega
      · subst h
        rw [c1] at c2
        cases c2
      · refine .inr ⟨rem.take j, 9, rem.drop (j + 1), cut 9 j l2 c2, rfl, fun d hd => (isSp_or d).2 ⟨a1 d (sub j i d (by omega) hd), a2 d hd⟩, .inr (.inl ⟨?_, ?_⟩)⟩
        · rw [e2, List.length_take, Nat.min_eq_left (by omega)]
        · rw [e1, List.length_take, Nat.min_eq_left (by omega)]; omega

def eachRel (b : Nat) (l : List UInt8) (J : List (List UInt8) → (Nat → Prop) → World → Prop) (fp : Nat → Prop) (W wr : World) : Prop :=
  ∃ (pre : List (List UInt8)) (fp1 : Nat → Prop) (rem : List UInt8), words l = pre ++ words rem ∧ wr.cell? ⟨b, 0, none⟩ = some (.string (bs rem)) ∧ wr.frozen? ⟨b, 0, none⟩ = false ∧ J pre fp1 wr ∧ Fwd (fun k => fp k ∨ k = b) fp1 W wr ∧ (∀ k, fp1 k → fp k ∨ W.heap.size ≤ k) ∧ rem.length ≤ 9223372036854775807

theorem eachRel_step {b : Nat} {l r : List UInt8} {J : List (List UInt8) → (Nat → Prop) → World → Prop} {fp fp1 : Nat → Prop} {W wr : World} {pre : List (List UInt8)} {u : Value}
    (hb : b < W.heap.size) (hfb : ¬ fp b) (hJ : ∀ pre fp A B, J pre fp A → Stays fp A B → J pre fp B) (hw : words l = pre ++ words r) (hj : J pre fp1 wr) (hfw : Fwd (fun k => fp k ∨ k = b) fp1 W wr)
    (hfo : ∀ k, fp1 k → fp k ∨ W.heap.size ≤ k) (hc : wr.cell? ⟨b, 0, none⟩ = some u) (hf : wr.frozen? ⟨b, 0, none⟩ = false) (hlr : r.length ≤ 9223372036854775807) : eachRel b l J fp W (wr.setCell ⟨b, 0, none⟩ (.string (bs r))) := by
  have hn : ¬ fp1 b := fun h => (hfo b h).elim hfb (fun h => by omega)
  refine ⟨pre, fp1, r, hw, by simp [cell_set_ite, hc], by simp [hf], hJ _ _ _ _ hj ⟨rfl, rfl, rfl, by simp [World.setCell], fun k hk => Below.heap_setCell _ _ _ _ (fun e => hn (by have e' : k = b := e; subst e'; exact hk))⟩, ⟨hfw.only.setCell (fun _ => .inr rfl) _, fun k hk => ⟨(hfw.own k hk).1, by simpa using (hfw.own k hk).2⟩⟩, hfo, hlr⟩

theorem eachRel_drew {b : Nat} {l : List UInt8} {J : List (List UInt8) → (Nat → Prop) → World → Prop} {fp : Nat → Prop} {W wr : World}
    (hJ : ∀ pre fp A B, J pre fp A → Stays fp A B → J pre fp B) (h : eachRel b l J fp W wr) : eachRel b l J fp W wr.drew := by
  obtain ⟨pre, fp1, rem, hw, hc, hf, hj, hfw, hfo, hlr⟩ := h
  exact ⟨pre, fp1, rem, hw, hc, hf, J_ext hJ hj (fun k hk => (hfw.own k hk).2) (ext_drew _), hfw.ext (ext_drew _), hfo, hlr⟩

attribute [local go_sem] Oper.semAt_some

set_option maxRecDepth 100000 in
set_option maxHeartbeats 1600000 in
theorem each_iter (b : Nat) (l : List UInt8) (hl : l.length ≤ 9223372036854775807) :
    Iter Try.prog 58 #[.pointer (some ⟨b, 0, none⟩)] (fun x : List UInt8 => #[.string (bs x)]) (fun pre => pre <+: words l) (fun xs => xs = words l) (fun _ => True) (fun _ _ _ => True)
      (fun W => W.cell? ⟨b, 0, none⟩ = some (.string (bs l)) ∧ W.frozen? ⟨b, 0, none⟩ = false) (fun k => k = b) := by
  rintro ly J Jx fp W ⟨hc, hf⟩ hfp hJ hJx _ hY h0
  have hb : b < W.heap.size := World.block_lt_of_cell? W _ hc
  have HJ := Lib.hid hJ
  have HJx := Lib.hid hJx
  have HY := Lib.hid hY
  have H0 : Hid (eachRel b l J fp W W) := ⟨[], fp, l, by simp, hc, hf, h0, (Fwd.refl (fun k hk => (hfp k hk).1)).wider (fun k hk => .inl hk), fun k hk => .inl hk, hl⟩
  have Hfp := Lib.hid hfp
  clear hJ hJx hY h0 hfp hc hf
  refine callsIn_of_wp Try.func58 rfl trivial ?_
  simp only [Try.ntmps58, List.size_toArray, List.length_cons, List.length_nil, Nat.reduceAdd, Nat.reduceSub, Array.replicate_succ, Array.replicate_zero, List.push_toArray, List.append_toArray, List.nil_append, List.cons_append]
  gi_wp2_with fail
  gi_loopw [] (fun wr => eachRel b l J fp W wr) (fun wr => strLen (wr.cell? ⟨b, 0, none⟩))
  case atStart => exact H0.out
  case round =>
    obtain ⟨pre, fp1, rem, hw, hc, hf, hj, hfw, hfo, hlr⟩ := hrel
    have Hw := Lib.hid hw
    have Hj := Lib.hid hj
    have Hfw := Lib.hid hfw
    have Hfo := Lib.hid hfo
    clear hw hj hfw hfo
    by_cases hrem : rem = []
    · subst hrem
      have he : (bs []).toList = [] := by simp [bs]
      have he2 : (bs []).toList.isEmpty = true := by simp [bs]
      gi_wp2_with fail
      go_end0
      exact ⟨⟨_, rfl⟩, pre, fp1, Hfw.out, Hfo.out, .inl ⟨by rw [Hw.out]; simp [words, wordsGo], Hj.out⟩⟩
    · have hne : (bs rem).toList.isEmpty = false := bs_ne hrem
      have ix := fun c => indexByte_any (bs rem) c
      obtain ⟨h1, h2, hns⟩ | ⟨p, c, r, hr, hsp, hns, hi⟩ := cutCase rem
      · have hY := HY.out pre fp1 rem wr Hj.out (fun k hk => (Hfw.out.own k hk).2) Hfw.out.only (by rw [Hw.out, words_last rem hns, if_neg hrem]; exact List.prefix_refl _) trivial
        obtain ⟨fn, tmps, assign, body, hy, hR⟩ := hY
        have HR := Lib.hid hR
        have Hns := Lib.hid hns
        clear hR hns
        gi_wp2_with (gi_at_call 59; refine (callsIn_wide.2 (ix _ _)).mono ?_; rintro e w' ⟨rfl, rfl⟩)
        refine HR.out.mono ?_
        clear hy HR
        rintro e W2 ⟨fp2, hfw2, (⟨rfl, hj2⟩ | ⟨rfl, hjx2⟩)⟩
        · have hn1 : ¬ fp1 b := fun h => (Hfo.out b h).elim (fun h => (Hfp.out b h).2 rfl) (fun h => by omega)
          have hbr : b < wr.heap.size := World.block_lt_of_cell? wr _ hc
          have hc2 : W2.cell? ⟨b, 0, none⟩ = some (.string (bs rem)) := (hfw2.only.cell hbr hn1 0).trans hc
          have hf2 : W2.frozen? ⟨b, 0, none⟩ = false := (hfw2.only.frozen hbr hn1 0).trans hf
          have Hrel : Hid (eachRel b l J fp W (W2.setCell ⟨b, 0, none⟩ (.string (bs [])))) :=
            eachRel_step hb (fun h => (Hfp.out b h).2 rfl) HJ.out (by rw [Hw.out, words_last rem Hns.out, if_neg hrem]; simp [words, wordsGo]) hj2 (Hfw.out.trans hfw2)
              (fun k hk => ((hfw2.own k hk).1).elim (Hfo.out k) (fun h => .inr (Nat.le_trans Hfw.out.only.size h))) hc2 hf2 (by simp)
          have Hj2 := Lib.hid hj2
          have Hfw2 := Lib.hid hfw2
          clear hj2 hfw2
          gi_wp2
          go_roundw
          case rel => exact Hrel.out
          case measure => simp [cell_set_ite, hc2, hc, strLen, bs_size]; exact List.length_pos_iff.2 hrem
        · gi_wp2
          refine bodyPost_ret (results_none rfl _ _ _) rfl ?_
          have hok : pre ++ [rem] <+: words l := by rw [Hw.out, words_last rem Hns.out, if_neg hrem]; exact List.prefix_refl _
          exact ⟨⟨_, rfl⟩, pre ++ [rem], fp2, Hfw.out.trans hfw2, (fun k hk => ((hfw2.own k hk).1).elim (Hfo.out k) (fun h => .inr (Nat.le_trans Hfw.out.only.size h))), .inr ⟨hok, hjx2⟩⟩
      · subst hr
        have hlen : (p ++ c :: r).length = p.length + 1 + r.length := by simp; omega
        have hpl : (p.length : Int) + 1 + r.length ≤ 9223372036854775807 := by rw [hlen] at hlr; omega
        have hrl : r.length ≤ 9223372036854775807 := by omega
        have hsz : (bs (p ++ c :: r)).size = p.length + 1 + r.length := by rw [bs_size, hlen]
        have hx1 : (bs (p ++ c :: r)).extract 0 p.length = bs p := by rw [bs_extract, bs_data]; simp
        have hx2 : (bs (p ++ c :: r)).extract (p.length + 1) (p.length + 1 + r.length) = bs r := by
          rw [bs_extract, bs_data]
          congr 1
          rw [show p ++ c :: r = (p ++ [c]) ++ r from by simp, show p.length + 1 = (p ++ [c]).length from by simp, List.drop_left]
          exact List.take_of_length_le (by simp)
        have Hns := Lib.hid hns
        clear hns
        rcases hi with ⟨h9, h32⟩ | ⟨h9, h32⟩ | ⟨h32, h9⟩ | ⟨h32, h9⟩
        all_goals
          gi_wp2_with (gi_at_call 59; refine (callsIn_wide.2 (ix _ _)).mono ?_; rintro e w' ⟨rfl, rfl⟩)
          gi_region
          by_cases hp0 : p = []
          · have hw2 : words l = pre ++ words r := by rw [Hw.out, words_cut p r c hsp Hns.out, if_pos hp0]
            have Hrel := Lib.hid (eachRel_drew HJ.out (eachRel_step (r := r) hb (fun h => (Hfp.out b h).2 rfl) HJ.out hw2 Hj.out Hfw.out Hfo.out hc hf hrl))
            have he : (bs p).toList = [] := by simp [bs, hp0]
            have he2 : (bs p).toList.isEmpty = true := by simp [bs, hp0]
            clear hw2 hp0
            gi_wp2
            go_roundw
            case rel => exact Hrel.out
            case measure => simp [cell_set_ite, hc, strLen, bs_size]; omega
          · have hnp : (bs p).toList.isEmpty = false := bs_ne hp0
            have hw2 : words l = (pre ++ [p]) ++ words r := by rw [Hw.out, words_cut p r c hsp Hns.out, if_neg hp0]; simp
            have hj1 : J pre fp1 wr.drew := J_ext HJ.out Hj.out (fun k hk => (Hfw.out.own k hk).2) (ext_drew _)
            have hfw1 : Fwd (fun k => fp k ∨ k = b) fp1 W wr.drew := Hfw.out.ext (ext_drew _)
            obtain ⟨fn, tmps, assign, body, hy, hR⟩ := HY.out pre fp1 p wr.drew hj1 (fun k hk => (hfw1.own k hk).2) hfw1.only (by rw [hw2]; exact List.prefix_append _ _) trivial
            have HR := Lib.hid hR
            have Hw2 := Lib.hid hw2
            have Hfw1 := Lib.hid hfw1
            clear hR hj1 hw2 hfw1
            gi_wp2
            refine HR.out.mono ?_
            clear hy HR
            rintro e W2 ⟨fp2, hfw2, (⟨rfl, hj2⟩ | ⟨rfl, hjx2⟩)⟩
            · have hn1 : ¬ fp1 b := fun h => (Hfo.out b h).elim (fun h => (Hfp.out b h).2 rfl) (fun h => by omega)
              have hbr : b < wr.heap.size := World.block_lt_of_cell? wr _ hc
              have hc2 : W2.cell? ⟨b, 0, none⟩ = some (.string (bs (p ++ c :: r))) := (hfw2.only.cell hbr hn1 0).trans hc
              have hf2 : W2.frozen? ⟨b, 0, none⟩ = false := (hfw2.only.frozen hbr hn1 0).trans hf
              have Hrel : Hid (eachRel b l J fp W (W2.setCell ⟨b, 0, none⟩ (.string (bs r)))) :=
                eachRel_step hb (fun h => (Hfp.out b h).2 rfl) HJ.out Hw2.out hj2 (Hfw1.out.trans hfw2)
                  (fun k hk => ((hfw2.own k hk).1).elim (Hfo.out k) (fun h => .inr (Nat.le_trans Hfw1.out.only.size h))) hc2 hf2 hrl
              have Hj2 := Lib.hid hj2
              have Hfw2 := Lib.hid hfw2
              clear hj2 hfw2
              gi_wp2
              go_roundw
              case rel => exact Hrel.out
              case measure => simp [cell_set_ite, hc2, hc, strLen, bs_size]; omega
            · gi_wp2
              refine bodyPost_ret (results_none rfl _ _ _) rfl ?_
              exact ⟨⟨_, rfl⟩, pre ++ [p], fp2, Hfw1.out.trans hfw2, (fun k hk => ((hfw2.own k hk).1).elim (Hfo.out k) (fun h => .inr (Nat.le_trans Hfw1.out.only.size h))), .inr ⟨by rw [Hw2.out]; exact List.prefix_append _ _, hjx2⟩⟩
end Go.Proofs.Ytmflopeedofkhaa

namespace Go.Proofs.Ytmflopeedofkhaa
set_option linter.unusedSimpArgs false
set_option linter.unusedVariables false
set_option maxRecDepth 100000
open Go.RowKit

theorem wordsGo_len : ∀ (l w : List UInt8), (wordsGo w l).length ≤ l.length + 1 ∧ (w = [] → (wordsGo w l).length ≤ l.length)
  | [], w => by unfold wordsGo; split <;> simp_all
  | c :: l, w => by
    unfold wordsGo
    have h1 := wordsGo_len l []
    have h2 := wordsGo_len l (w ++ [c])
    simp only [List.length_cons]
    refine ⟨?_, fun h => ?_⟩
    · split
      · split
        · omega
        · simp only [List.length_cons]; have := h1.2 rfl; omega
      · omega
    · subst h
      split
      · simp; have := h1.2 rfl; omega
      · omega
theorem words_len (l : List UInt8) : (words l).length ≤ l.length := (wordsGo_len l []).2 rfl

theorem strsElem : Elem Try.prog 39 9 1 16 (.string ⟨#[]⟩) := Elem.mk' Try.underlying39 (by kernel_rfl) rfl (by decide)

set_option maxHeartbeats 400000 in
theorem each_any (s : ByteArray) (w : World) :
    Calls Try.prog 46 #[.string s] w fun e w' => e = .returned (.func (.func 58) #[] #[.pointer (some ⟨w.heap.size, 0, none⟩)]) ∧ w' = w.alloc (.cells #[.string s] 9) := by
  have hmf : ∀ (fn : Fn) (first cap : Array Value) (w : World), (Instr.makeFunc fn first cap).run Try.prog w = .ok (.func fn first cap) w := fun _ _ _ _ => rfl
  go_enter Try.func46, Try.ntmps46
  go_wp2
  go_ret
  exact ⟨rfl, rfl⟩

attribute [local go_sem] Oper.semAt_some
/-- what holds between two rounds of a loop that collects into a variable's slice -/
def Coll (b : Nat) (e : TypeId) (size n : Nat) (xs : List Value) (fp : Nat → Prop) (W : World) : Prop :=
  ∃ ao cap g, W.cell? ⟨b, 0, none⟩ = some (.slice ao n cap) ∧ W.frozen? ⟨b, 0, none⟩ = false ∧ Own W ao cap g e size n xs ∧ g ≠ some b ∧ ∀ k, fp k ↔ (k = b ∨ g = some k)
theorem Coll.stays {b : Nat} {e : TypeId} {size n : Nat} {xs : List Value} {fp : Nat → Prop} {A B : World} (h : Coll b e size n xs fp A) (hs : Stays fp A B) : Coll b e size n xs fp B := by
  obtain ⟨ao, cap, g, hc, hf, ho, hg, hk⟩ := h
  exact ⟨ao, cap, g, (hs.cell ((hk b).2 (.inl rfl)) 0).trans hc, (hs.frozen ((hk b).2 (.inl rfl)) 0).trans hf, ho.stays hs (fun k h => (hk k).2 (.inr h)), hg, hk⟩
theorem Coll.at' {b : Nat} {g : Option Nat} {W W1 : World} {v : Value} {o : Obj} (hc : W.cell? ⟨b, 0, none⟩ = some v) (hf : W.frozen? ⟨b, 0, none⟩ = false) (hg : g ≠ some b) (hon : Only (fun k => g = some k) (W.alloc o) W1) :
    W1.cell? ⟨b, 0, none⟩ = some v ∧ W1.frozen? ⟨b, 0, none⟩ = false := by
  have hb : b < W.heap.size := World.block_lt_of_cell? W _ hc
  have hbo : b < (W.alloc o).heap.size := by simp; omega
  exact ⟨(hon.cell hbo hg 0).trans ((World.cell?_alloc_lt W o ⟨b, 0, none⟩ hb).trans hc), (hon.frozen hbo hg 0).trans ((World.frozen?_alloc_old W o ⟨b, 0, none⟩ (by simp; omega)).trans hf)⟩
/-- the round's end: the element appended, the variable stored -/
theorem Coll.next {b : Nat} {e : TypeId} {size n m : Nat} {xs news : List Value} {fp : Nat → Prop} {W W1 : World} {ao ao' : Option Addr} {cap cap' : Nat} {g g' : Option Nat} {o : Obj}
    (hc : W.cell? ⟨b, 0, none⟩ = some (.slice ao n cap)) (hf : W.frozen? ⟨b, 0, none⟩ = false) (ho : Own W ao cap g e size n xs) (hg : g ≠ some b) (hk : ∀ k, fp k ↔ (k = b ∨ g = some k))
    (ho' : Own W1 ao' cap' g' e size (n + m) (xs ++ news)) (hg' : g' = g ∨ g' = some (W.alloc o).heap.size) (hon : Only (fun k => g = some k) (W.alloc o) W1) :
    Coll b e size (n + m) (xs ++ news) (fun k => k = b ∨ g' = some k) (W1.setCell ⟨b, 0, none⟩ (.slice ao' (n + m) cap')) ∧
    Fwd fp (fun k => k = b ∨ g' = some k) W (W1.setCell ⟨b, 0, none⟩ (.slice ao' (n + m) cap')) := by
  have hb : b < W.heap.size := World.block_lt_of_cell? W _ hc
  have hbo : b < (W.alloc o).heap.size := by simp; omega
  have hgb : g' ≠ some b := by
    rcases hg' with rfl | rfl
    · exact hg
    · simp; omega
  have hcell : W1.cell? ⟨b, 0, none⟩ = some (.slice ao n cap) := (hon.cell hbo hg 0).trans ((World.cell?_alloc_lt W o ⟨b, 0, none⟩ hb).trans hc)
  have hfz : W1.frozen? ⟨b, 0, none⟩ = false := (hon.frozen hbo hg 0).trans ((World.frozen?_alloc_old W o ⟨b, 0, none⟩ (by simp; omega)).trans hf)
  refine ⟨⟨ao', cap', g', by simp [cell_set_ite, hcell], by simp [hfz], ho'.setCell (fun k h e => hgb (by rw [h]; exact congrArg some e)) _, hgb, fun k => Iff.rfl⟩, ?_, ?_⟩
  · refine ((Only.of_below (fp := fp) (ext_alloc W o)).trans hon (fun i _ h => (hk i).2 (.inr h))).setCell (fun _ => (hk b).2 (.inl rfl)) _
  · rintro k (rfl | h)
    · exact ⟨.inl ((hk _).2 (.inl rfl)), by simp; have := hon.size; simp at this; omega⟩
    · refine ⟨?_, by simpa using ho'.lt k h⟩
      rcases hg' with rfl | rfl
      · exact .inl ((hk k).2 (.inr h))
      · cases h; exact .inr (by simp)

set_option maxRecDepth 100000 in
set_option maxHeartbeats 1600000 in
theorem words_any (l : List UInt8) (hl : l.length ≤ 1073741824) (w : World) :
    Calls Try.prog 21 #[.string (bs l)] w (RetOwn 9 1 (words l).length (strCells (words l)) w) := by
  have hE := strsElem
  have hwl := words_len l
  refine (callsIn_wide (n := 0)).1 (callsIn_of_wp_marks Try.func21 rfl trivial ?_)
  simp only [Try.ntmps21, List.size_toArray, List.length_cons, List.length_nil, Nat.reduceAdd, Nat.reduceSub, Array.replicate_succ, Array.replicate_zero, List.push_toArray, List.append_toArray, List.nil_append, List.cons_append]
  gi_wp2_with (gi_at_call 46; refine (callsIn_wide.2 (each_any _ _)).mono ?_; rintro e w1 ⟨rfl, rfl⟩)
  refine wpIn_world fun w2 hw2 => ?_
  have c0 : w2.cell? ⟨w.heap.size, 0, none⟩ = some (.slice none 0 0) := by rw [hw2]; simp [go_sem, ↓IntWalk.iteOmega]
  have f0 : w2.frozen? ⟨w.heap.size, 0, none⟩ = false := by rw [hw2]; simp [go_sem, ↓IntWalk.iteOmega]
  have c1 : w2.cell? ⟨w.heap.size + 1, 0, none⟩ = some (.string (bs l)) := by rw [hw2]; simp [go_sem, ↓IntWalk.iteOmega]
  have f1 : w2.frozen? ⟨w.heap.size + 1, 0, none⟩ = false := by rw [hw2]; simp [go_sem, ↓IntWalk.iteOmega]
  have hs2 : w2.heap.size = w.heap.size + 2 := by rw [hw2]; simp
  have hB2 : Below w.heap.size w w2 := by rw [hw2]; exact (ext_alloc w _).alloc (by simp) _
  clear hw2
  refine wpIn_range (gf := 58) (lb := #[.pointer (some ⟨w.heap.size + 1, 0, none⟩)]) rfl (enters_of Try.func58 (by kernel_rfl) rfl) (each_iter (w.heap.size + 1) l (by omega)) (fun _ => rfl)
    (fun k => k = w.heap.size ∨ (none : Option Nat) = some k) (fun k hk => by simp at hk; omega) (fun k hk => by omega)
    (fun pre fp W => Coll w.heap.size 9 1 pre.length (strCells pre) fp W) (fun _ _ _ _ => False)
    (fun pre fp A B h hs => h.stays hs) (fun _ _ _ _ _ h _ => h) (fun _ _ _ _ => trivial)
    (fun _ x a' _ => a' = { tmps := #[.string (bs l), undef, .slice none 0 0, .pointer (some ⟨w.heap.size, 0, none⟩), .string (bs x), .string (bs l), .func (.func 58) #[] #[.pointer (some ⟨w.heap.size + 1, 0, none⟩)], .string (bs x), undef, undef, undef, undef, undef], defers := [] })
    (fun _ _ _ _ _ _ _ _ h => h)
    (fun W hb => ⟨(hb.cell (p := ⟨_, 0, none⟩) (by simp; omega)).trans c1, (hb.frozen (p := ⟨_, 0, none⟩) (by simp; omega)).trans f1⟩)
    ⟨none, 0, none, c0, f0, Own.nil _ _ _, by simp, fun k => Iff.rfl⟩ ?assign ?body ?done (fun _ _ _ _ _ _ _ h => h.elim)
  case assign =>
    intro l1 pre fp x W K _ _ _ _ _ hK
    gi_wp2
    exact hK _ _ (Only.refl _ _) rfl
  case body =>
    rintro l1 pre fp x a' W W0 _ _ _ hok _ _ _ _ ⟨ao, cap, g, hc, hf, ho, hg, hk⟩ rfl _
    have hlen : pre.length + 1 ≤ 1073741824 := by
      have := hok.length_le
      simp at this
      omega
    have Hk := Lib.hid hk
    have Hok := Lib.hid hok
    clear hk hok
    gi_wp2_with (gi_at_builtin; refine wpListIn_app rfl _ _ _ _ rfl hE (ho.alloc _) rfl rfl (srcOne Try.underlying39 W _ _ _ rfl) (by simp [maxLen]; omega) (by omega) ?_; intro ao' cap' g' w1 ho' hg' hon; obtain ⟨hcw, hfzw⟩ := Coll.at' hc hf hg hon)
    obtain ⟨r1, r2⟩ := Coll.next hc hf ho hg Hk.out ho' hg' hon
    exact ⟨_, r2, by simpa [strCells] using r1⟩
  case done =>
    rintro D xs fp' W hD rfl ⟨ao, cap, g, hc, hf, ho, hg, hk⟩ honly hfw _ hnD hkD
    dsimp only
    gi_wp2
    have hDg : g ≠ some D := fun h => hnD ((hk D).2 (.inr h))
    refine leaveM1 hkD (results_tmp rfl _ _ _) ⟨ao, cap, g, rfl, ho.keep (fun b hb => World.putObj_heap_other (fun e => hDg (by rw [hb, e]))), ?_, ?_⟩
    · intro k hk2
      rcases hfw k ((hk k).2 (.inr hk2)) with (h | h) | h
      · subst h; exact Nat.le_refl _
      · cases h
      · omega
    · exact ext_put (hB2.trans (honly.below (by omega) (by rintro k hk ((h | h) | h) <;> first | omega | cases h))) (by omega)
end Go.Proofs.Ytmflopeedofkhaa

namespace Go.Proofs.Ytmflopeedofkhaa
set_option linter.unusedSimpArgs false
set_option linter.unusedVariables false
set_option maxRecDepth 100000
open Go.RowKit

def refWRel (l : List UInt8) (w : World) (o wd i : Value) (wr : World) : Prop :=
  ∃ (k : Nat) (O : List (List UInt8)) (W : List UInt8) (ao : Option Addr) (cap : Nat) (g : Option Nat) (aw : Option Addr) (capw : Nat) (gw : Option Nat),
    k ≤ l.length ∧ i = .int .i64 k ∧ o = .slice ao O.length cap ∧ wd = .slice aw W.length capw ∧ words l = O ++ wordsGo W (l.drop k) ∧ O.length ≤ k ∧ W.length ≤ k ∧
    Own wr ao cap g 9 1 O.length (strCells O) ∧ Own wr aw capw gw 5 1 W.length (byteVals W) ∧ (∀ b, g = some b → gw ≠ some b) ∧
    (∀ b, g = some b → w.heap.size ≤ b) ∧ (∀ b, gw = some b → w.heap.size ≤ b) ∧ Below w.heap.size w wr

set_option maxRecDepth 100000 in
set_option maxHeartbeats 1600000 in
theorem rwords_any (l : List UInt8) (hl : l.length ≤ 1073741824) (w : World) :
    Calls Try.prog 25 #[.string (bs l)] w (RetOwn 9 1 (words l).length (strCells (words l)) w) := by
  have hE := strsElem
  have hEb := bytesElem
  have hsz := bs_size l
  go_enter Try.func25, Try.ntmps25
  go_wp2_with fail
  go_loopw [3, 4, 5] (fun o wd i wr => refWRel l w o wd i wr) (fun _ _ i _ => l.length - (intOf i).toNat)
  case atStart =>
    refine ⟨0, [], [], _, _, some w.heap.size, _, _, some (w.heap.size + 1), by omega, rfl, rfl, rfl, rfl, by simp, by simp, (Own.empty w _ _).alloc _, Own.emptyAt _ _ _ _ (by simp), ?_, ?_, ?_, ?_⟩
    · intro b h; cases h; simp
    · intro b h; cases h; omega
    · intro b h; cases h; omega
    · exact (ext_alloc w _).alloc (by simp) _
  case round =>
    obtain ⟨k, O, W, ao, cap, g, aw, capw, gw, hk, rfl, rfl, rfl, hw, hO, hW, ho, how, hgg, hg1, hg2, hB⟩ := hrel
    have hconv := fun o => run_string_own (P := Try.prog) (src := 22) (dst := 9) Try.underlying22 Try.underlying5 Try.underlying9 (how.alloc o)
    have hconv0 := run_string_own (P := Try.prog) (src := 22) (dst := 9) Try.underlying22 Try.underlying5 Try.underlying9 how
    have Hw := Lib.hid hw
    have Hg := Lib.hid hgg
    have Hg1 := Lib.hid hg1
    have Hg2 := Lib.hid hg2
    have HB := Lib.hid hB
    clear hw hgg hg1 hg2 hB
    by_cases hlt : k < l.length
    · have hget := bs_get l k (by rw [bs_size]; exact hlt)
      have hdrop : l.drop k = l[k] :: l.drop (k + 1) := List.drop_eq_getElem_cons hlt
      generalize hc : l[k] = c at hget hdrop
      have Hd := Lib.hid hdrop
      clear hc hdrop
      have n32 := neB c 32 32 rfl
      have n9 := neB c 9 9 rfl
      cases hsp : isSp c with
      | false =>
        obtain ⟨n1, n2⟩ := (isSp_or c).1 hsp
        rw [n1] at n32
        rw [n2] at n9
        simp only [Bool.not_false] at n32 n9
        have Hsp := Lib.hid hsp
        clear hsp n1 n2
        go_wp2_with (at_builtin; refine wpList_app rfl (.tmp 24) (.tmp 28) 22 22 rfl hEb (how.alloc _) rfl rfl (srcOne Try.underlying22 _ _ _ _ rfl) (by simp [maxLen]; omega) (by omega) ?_; intro ao' cap' g' w1 ho' hg' hon)
        go_roundw
        case rel =>
          refine ⟨k + 1, O, W ++ [c], ao, cap, g, ao', cap', g', by omega, by go_num, rfl, by simp, ?_, by omega, by simp; omega, (ho.alloc _).only hon (fun b h e => Hg.out b h e), by simpa [byteVals] using ho', ?_, Hg1.out, ?_, ?_⟩
          · rw [Hw.out, Hd.out, wordsGo, Hsp.out]; rfl
          · intro b h e
            rcases hg' with rfl | rfl
            · exact Hg.out b h e
            · cases e; have := ho.lt _ h; simp at this; omega
          · intro b h
            rcases hg' with rfl | rfl
            · exact Hg2.out b h
            · cases h; have := HB.out.size; simp; omega
          · exact (HB.out.alloc HB.out.size _).trans (hon.below (by have := HB.out.size; simp; omega) (fun k hk e => by have := Hg2.out k e; omega))
        case measure => simp [intOf]; omega
      | true =>
        have Hsp := Lib.hid hsp
        have hor : (c == 32) = true ∨ (c == 32) = false ∧ (c == 9) = true := by
          cases h1 : c == 32 with
          | true => exact .inl rfl
          | false =>
            cases h2 : c == 9 with
            | true => exact .inr ⟨rfl, rfl⟩
            | false => have := (isSp_or c).2 ⟨h1, h2⟩; rw [this] at hsp; cases hsp
        clear hsp
        by_cases hW0 : W = []
        · subst hW0
          have hrel2 : Hid (refWRel l w (Value.slice ao O.length cap) (Value.slice aw 0 capw) (Value.int IntKind.i64 ((k : Int) + 1)) wr) :=
            ⟨k + 1, O, [], ao, cap, g, aw, capw, gw, by omega, by go_num, rfl, rfl, by rw [Hw.out, Hd.out, wordsGo, Hsp.out]; rfl, by omega, by simp, ho, how, Hg.out, Hg1.out, Hg2.out, HB.out⟩
          clear hconv hconv0
          rcases hor with h1 | ⟨h1, h2⟩
          · rw [h1] at n32
            simp only [Bool.not_true] at n32
            clear h1 n9
            go_wp2_with fail
            go_roundw
            case rel => exact hrel2.out
            case measure => simp [intOf]; omega
          · rw [h1] at n32
            rw [h2] at n9
            simp only [Bool.not_true, Bool.not_false] at n32 n9
            clear h1 h2
            go_wp2_with fail
            go_roundw
            case rel => exact hrel2.out
            case measure => simp [intOf]; omega
        · have hWp : 0 < W.length := List.length_pos_iff.2 hW0
          have fin : ∀ (ao' : Option Addr) (cap' : Nat) (g' : Option Nat) (w1 : World) (ob : Obj), Own w1 ao' cap' g' 9 1 (O.length + 1) (strCells O ++ [.string (bs W)]) → (g' = g ∨ g' = some (wr.alloc ob).heap.size) → Only (fun k => g = some k) (wr.alloc ob) w1 →
              Hid (refWRel l w (Value.slice ao' (O.length + 1) cap') (Value.slice (some ⟨w1.heap.size, 0, none⟩) 0 0) (Value.int IntKind.i64 ((k : Int) + 1)) (w1.alloc (.cells #[] 5))) := fun ao' cap' g' w1 ob ho' hg' hon => by
            have hsz1 : w.heap.size ≤ wr.heap.size := HB.out.size
            have hsz2 := hon.size
            simp only [World.size_alloc] at hsz2
            refine ⟨k + 1, O ++ [W], [], ao', cap', g', _, _, some w1.heap.size, by omega, by go_num, by simp, rfl, ?_, by simp; omega, by simp, by simpa [strCells] using ho'.alloc _, Own.empty _ _ _, ?_, ?_, ?_, ?_⟩
            · rw [Hw.out, Hd.out, wordsGo, Hsp.out]; simp [hW0]
            · intro b h e; cases e; have := ho'.lt _ h; omega
            · intro b h
              rcases hg' with rfl | rfl
              · exact Hg1.out b h
              · cases h; simp; omega
            · intro b h; cases h; omega
            · exact ((HB.out.alloc hsz1 _).trans (hon.below (by simp; omega) (fun k hk e => by have := Hg1.out k e; omega))).alloc (by omega) _
          clear hW0
          have hconv2 := hconv0
          rcases hor with h1 | ⟨h1, h2⟩
          · rw [h1] at n32
            simp only [Bool.not_true] at n32
            clear h1 n9 hconv
            go_wp2_with (at_builtin; refine wpList_app rfl (.tmp 33) (.tmp 36) 39 39 rfl hE (ho.alloc _) rfl rfl (srcOne Try.underlying39 _ _ _ _ rfl) (by simp [maxLen]; omega) (by omega) ?_; intro ao' cap' g' w1 ho' hg' hon)
            go_roundw
            case rel => exact (fin ao' cap' g' w1 _ ho' hg' hon).out
            case measure => simp [intOf]; omega
          · rw [h1] at n32
            rw [h2] at n9
            simp only [Bool.not_true, Bool.not_false] at n32 n9
            clear h1 h2 hconv
            go_wp2_with (at_builtin; refine wpList_app rfl (.tmp 33) (.tmp 36) 39 39 rfl hE (ho.alloc _) rfl rfl (srcOne Try.underlying39 _ _ _ _ rfl) (by simp [maxLen]; omega) (by omega) ?_; intro ao' cap' g' w1 ho' hg' hon)
            go_roundw
            case rel => exact (fin ao' cap' g' w1 _ ho' hg' hon).out
            case measure => simp [intOf]; omega
    · obtain rfl : k = l.length := by omega
      have hwf : words l = O ++ (if W = [] then [] else [W]) := by rw [Hw.out, List.drop_length, wordsGo]
      by_cases hW0 : W = []
      · subst hW0
        simp only [if_true, List.append_nil] at hwf
        have Hwf := Lib.hid hwf
        clear hwf hconv hconv0
        go_wp2_with fail
        go_ret
        exact ⟨ao, cap, g, by rw [Hwf.out]; rfl, by rw [Hwf.out]; exact ho, Hg1.out, HB.out⟩
      · rw [if_neg hW0] at hwf
        have hWp : 0 < W.length := List.length_pos_iff.2 hW0
        have Hwf := Lib.hid hwf
        clear hwf hconv hW0
        go_wp2_with (at_builtin; refine wpList_app rfl (.tmp 42) (.tmp 45) 39 39 rfl hE (ho.alloc _) rfl rfl (srcOne Try.underlying39 _ _ _ _ rfl) (by simp [maxLen]; omega) (by omega) ?_; intro ao' cap' g' w1 ho' hg' hon)
        go_ret
        have hsz1 : w.heap.size ≤ wr.heap.size := HB.out.size
        refine ⟨ao', cap', g', by rw [Hwf.out]; simp, by rw [Hwf.out]; simpa [strCells] using ho', ?_, (HB.out.alloc hsz1 _).trans (hon.below (by simp; omega) (fun k hk e => by have := Hg1.out k e; omega))⟩
        intro b h
        rcases hg' with rfl | rfl
        · exact Hg1.out b h
        · cases h; simp; omega
end Go.Proofs.Ytmflopeedofkhaa

namespace Go.Proofs.Ytmflopeedofkhaa
set_option linter.unusedSimpArgs false
set_option linter.unusedVariables false
set_option maxRecDepth 100000
open Go.RowKit

attribute [go_sem] bs_toList
def sameRel (a b : List (List UInt8)) (w : World) (v i : Value) (wr : World) : Prop :=
  ∃ k : Nat, k ≤ a.length ∧ i = .int .i64 k ∧ a.take k = b.take k ∧ Below w.heap.size w wr

end Go.Proofs.Ytmflopeedofkhaa

namespace Go.Proofs.Ytmflopeedofkhaa
set_option linter.unusedSimpArgs false
set_option linter.unusedVariables false
set_option maxRecDepth 100000
open Go.RowKit
attribute [local go_sem] Oper.semAt_some

/-- '[]byte(s)' -/
theorem conv_bytes (l : List UInt8) (w : World) : ∃ cap w1, (convert 9 22 (.string (bs l))).run Try.prog w = .ok (.slice (some ⟨w.heap.size, 0, none⟩) l.length cap) w1 ∧ Below w.heap.size w w1 ∧
    w.heap.size < w1.heap.size ∧ ∀ j, j < l.length → w1.cell? ⟨w.heap.size, j, none⟩ = (byteVals l)[j]? := by
  have h := Lib.run_convert_string_bytes (P := Try.prog) w 9 22 5 (bs l) Try.underlying9 Try.underlying22 Try.underlying5
  rw [bs_size] at h
  refine ⟨_, _, h, bytesWorld_below _ _ _, by rw [Lib.bytesWorld_size]; omega, fun j hj => ?_⟩
  rw [Lib.bytesWorld_cell w 5 (bs l) j (by rw [bs_size]; exact hj), bs_data]
  simp [byteVals, List.getD, List.getElem?_eq_getElem hj]

/-- the error's values -/
def numOut (r : Nat × Nat) : Ending := .returned (.tuple #[.int .u64 r.1, .int .i64 r.2])

def numRel (l : List UInt8) (most : Nat) (w w1 : World) (n o i : Value) (wr : World) : Prop :=
  ∃ (k m : Nat) (over : Bool), k ≤ l.length ∧ i = .int .i64 k ∧ n = .int .u64 m ∧ o = .bool over ∧ m < 18446744073709551616 ∧ (l.take k).all isDig = true ∧
    (over = false → m = val (l.take k) ∧ m ≤ most) ∧ (over = true → most < val (l.take k)) ∧ Below w1.heap.size w1 wr

theorem isDig_iff (c : UInt8) : isDig c = true ↔ 48 ≤ c.toNat ∧ c.toNat ≤ 57 := by
  unfold isDig
  rw [Bool.and_eq_true, decide_eq_true_eq, decide_eq_true_eq, UInt8.le_iff_toNat_le, UInt8.le_iff_toNat_le]
  exact Iff.rfl
theorem val_next (p : List UInt8) (c : UInt8) : val (p ++ [c]) = 10 * val p + digV c := by
  unfold val; rw [valFrom_append]; rfl

set_option maxRecDepth 100000 in
set_option maxHeartbeats 3200000 in
theorem num_any (l : List UInt8) (most : Nat) (hl : l.length ≤ 1073741824) (hmost : most < 18446744073709551616) (w : World) :
    Calls Try.prog 56 #[.string (bs l), .int .u64 most] w fun e w' => e = numOut (num l most) ∧ Below w.heap.size w w' := by
  have hsz := bs_size l
  by_cases h0 : l = []
  · subst h0
    go_enter Try.func56, Try.ntmps56
    go_wp2_with fail
    go_ret2
    exact ⟨rfl, Below.refl _ _⟩
  have hemp : l.isEmpty = false := by simpa using h0
  have hlp : 0 < l.length := List.length_pos_iff.2 h0
  have hget0 := bs_get l 0 (by rw [bs_size]; exact hlp)
  by_cases hz : 1 < l.length ∧ (l[0] == 48) = true
  · have hb3 : num l most = (0, 3) := by
      unfold num bad3
      have : l.head? = some 48 := by rw [List.head?_eq_getElem?, List.getElem?_eq_getElem hlp]; exact congrArg some (by simpa using hz.2)
      simp [hz.1, this]
    have n48 := eqB l[0] 48 48 rfl
    rw [hz.2] at n48
    have hlen : decide ((1 : Int) < l.length) = true := by simp; omega
    have Hb3 := Lib.hid hb3
    obtain ⟨hz1, hz2⟩ := hz
    clear hb3 hz2
    go_enter Try.func56, Try.ntmps56
    go_wp2_with fail
    go_ret2
    exact ⟨by rw [Hb3.out]; rfl, Below.refl _ _⟩
  have hz48 : ¬ (1 < l.length ∧ l.head? = some 48) := by
    rintro ⟨h1, h2⟩
    rw [List.head?_eq_getElem?, List.getElem?_eq_getElem hlp] at h2
    exact hz ⟨h1, by simpa using Option.some.inj h2⟩
  have hbad : bad3 l = !l.all isDig := by
    unfold bad3
    have h1 : l.isEmpty = false := by simpa using h0
    rw [h1, Bool.false_or]
    have h2 : (decide (1 < l.length) && l.head? == some 48) = false := by
      rw [Bool.eq_false_iff]; intro h; apply hz48; simpa using h
    rw [h2, Bool.false_or]
  obtain ⟨cap, w1, hcv, hB1, hw1, hcell⟩ := conv_bytes l w
  have body : ∀ (t : Act) , True := fun _ => trivial
  have n48 := eqB l[0] 48 48 rfl
  have Hbad := Lib.hid hbad
  have Hcell := Lib.hid hcell
  have HB1 := Lib.hid hB1
  clear hbad hz48 hcell hB1 body
  have key : (decide ((1 : Int) < l.length) = false) ∨ (decide ((1 : Int) < l.length) = true ∧ (((l[0].toNat : Int)) == 48) = false) := by
    by_cases h : 1 < l.length
    · refine .inr ⟨by simp; omega, ?_⟩
      rw [n48]
      cases h2 : l[0] == 48 with
      | false => rfl
      | true => exact absurd ⟨h, h2⟩ hz
    · exact .inl (by simp; omega)
  clear n48 hz
  go_enter Try.func56, Try.ntmps56
  rcases key with h1 | ⟨h1, h2⟩
  all_goals
    go_wp2_with fail
    go_loopw [6, 7, 9, 10, 11, 12, 13, 29] (fun n o _ _ _ _ _ i wr => numRel l most w w1 n o i wr) (fun _ _ _ _ _ _ _ i _ => l.length - (intOf i).toNat)
    case atStart => exact ⟨0, 0, false, by omega, rfl, rfl, rfl, by omega, rfl, fun _ => ⟨rfl, by omega⟩, (fun h => by cases h), Below.refl _ _⟩
    case round =>
      obtain ⟨k, m, over, hk, rfl, rfl, rfl, hm, hall, hno, hov, hB⟩ := hrel
      by_cases hlt : k < l.length
      · have hc : wr.cell? ⟨w.heap.size, k, none⟩ = some (.int .u8 l[k].toNat) := by
          rw [hB.cell (p := ⟨w.heap.size, k, none⟩) hw1, Hcell.out k hlt]; simp [byteVals, List.getElem?_eq_getElem hlt]
        have htk := take_next l k hlt
        have hvn := val_next (l.take k) l[k]
        have hnot : isDig l[k] = false → num l most = (0, 3) := fun h => by
          have h1 : l.all isDig = false := by
            rw [List.all_eq_false]; exact ⟨l[k], List.getElem_mem hlt, by rw [h]; simp⟩
          unfold num; rw [Hbad.out, h1]; rfl
        have hir : (k : Int) < (l.length : Int) := by omega
        have hall2 : isDig l[k] = true → (l.take (k + 1)).all isDig = true := fun h => by rw [htk, List.all_append, hall, List.all_cons, h]; rfl
        rw [← htk] at hvn
        unfold digV at hvn
        have hiff := isDig_iff l[k]
        have hp : ((l[k].toNat : Nat) : Int) ≤ 255 := by have := l[k].toNat_lt; omega
        clear htk hall
        generalize l[k] = c at *
        have HB := Lib.hid hB
        have Hnot := Lib.hid hnot
        have Hall2 := Lib.hid hall2
        have Hno := Lib.hid hno
        have Hov := Lib.hid hov
        have Hvn := Lib.hid hvn
        clear hB hnot hall2 hno hov hvn
        by_cases hd : isDig c = true
        · obtain ⟨d1, d2⟩ := hiff.1 hd
          have hl48 : decide ((c.toNat : Int) < 48) = false := by simp; omega
          have hg57 : decide ((57 : Int) < c.toNat) = false := by simp; omega
          obtain ⟨hi, hhi⟩ : ∃ hi : Nat, m * 10 / 18446744073709551616 = hi := ⟨_, rfl⟩
          obtain ⟨lo, hlo⟩ : ∃ lo : Nat, m * 10 % 18446744073709551616 = lo := ⟨_, rfl⟩
          have hmul := mul64_any m hm
          rw [hhi, hlo] at hmul
          have hadd := add64_run (lo : Int) ((c.toNat : Int) - 48) (by omega) (by omega)
          obtain ⟨s, hs⟩ : ∃ s : Nat, ((lo : Int) + ((c.toNat : Int) - 48)) % 18446744073709551616 = s := ⟨(((lo : Int) + ((c.toNat : Int) - 48)) % 18446744073709551616).toNat, by omega⟩
          obtain ⟨cy, hcy⟩ : ∃ cy : Nat, ((lo : Int) + ((c.toNat : Int) - 48)) / 18446744073709551616 = cy := ⟨(((lo : Int) + ((c.toNat : Int) - 48)) / 18446744073709551616).toNat, by omega⟩
          rw [hs, hcy] at hadd
          have hs2 : s < 18446744073709551616 := by omega
          have hsum : m * 10 + (c.toNat - 48) = hi * 18446744073709551616 + cy * 18446744073709551616 + s := by omega
          have fin : ∀ over' : Bool, (over' = false → over = false ∧ hi = 0 ∧ cy = 0 ∧ s ≤ most) → (over' = true → over = true ∨ hi ≠ 0 ∨ cy ≠ 0 ∨ most < s) →
              Hid (numRel l most w w1 (Value.int IntKind.u64 s) (Value.bool over') (Value.int IntKind.i64 ((k : Int) + 1)) wr) := fun over' g1 g2 => by
            refine ⟨k + 1, s, over', by omega, by go_num, rfl, rfl, hs2, Hall2.out hd, fun h => ?_, fun h => ?_, HB.out⟩
            · obtain ⟨e1, e2, e3, e4⟩ := g1 h
              have := Hno.out e1
              rw [Hvn.out]
              exact ⟨by omega, e4⟩
            · rw [Hvn.out]
              cases ho : over with
              | true => have := Hov.out ho; omega
              | false =>
                have := Hno.out ho
                rcases g2 h with e | e | e | e
                · rw [e] at ho; cases ho
                · omega
                · omega
                · omega
          have Fin := Lib.hid fin
          have hcases : over = true ∨ (over = false ∧ ((hi : Int) != 0) = true) ∨ (over = false ∧ ((hi : Int) != 0) = false ∧ ((cy : Int) != 0) = true) ∨ (over = false ∧ ((hi : Int) != 0) = false ∧ ((cy : Int) != 0) = false) := by
            cases over
            · by_cases x1 : hi = 0
              · by_cases x2 : cy = 0
                · exact .inr (.inr (.inr ⟨rfl, by simp [x1], by simp [x2]⟩))
                · exact .inr (.inr (.inl ⟨rfl, by simp [x1], by simp; omega⟩))
              · exact .inr (.inl ⟨rfl, by simp; omega⟩)
            · exact .inl rfl
          clear fin hs hcy hhi hlo hsum hiff
          rcases hcases with rfl | ⟨rfl, x1⟩ | ⟨rfl, x1, x2⟩ | ⟨rfl, x1, x2⟩
          all_goals
            go_wp2_with (go_at_call 74; refine (hmul _).mono ?_; rintro e w' ⟨rfl, rfl⟩)
            go_roundw
            case rel => exact (Fin.out _ (by simp_all <;> omega) (by simp_all <;> omega)).out
            case measure => simp [intOf]; omega
        · have hd' : isDig c = false := by simpa using hd
          have Hd := Lib.hid (Hnot.out hd')
          have hcases : decide ((c.toNat : Int) < 48) = true ∨ (decide ((c.toNat : Int) < 48) = false ∧ decide ((57 : Int) < c.toNat) = true) := by
            rw [isDig_iff] at hd
            by_cases x : c.toNat < 48
            · exact .inl (by simp; omega)
            · exact .inr ⟨by simp; omega, by simp; omega⟩
          clear hd hiff
          rcases hcases with x1 | ⟨x1, x2⟩
          all_goals
            go_wp2_with fail
            go_ret2
            exact ⟨by rw [Hd.out]; rfl, HB1.out.trans (HB.out.mono (by omega))⟩
      · obtain rfl : k = l.length := by omega
        rw [List.take_length] at hall hno hov
        have hb : bad3 l = false := by rw [Hbad.out, hall]; rfl
        have hn : num l most = if most < val l then (0, 9) else (val l, 0) := by unfold num; rw [hb]; rfl
        have HB := Lib.hid hB
        have Hn := Lib.hid hn
        have Hno := Lib.hid hno
        have Hov := Lib.hid hov
        clear hB hn hno hov hb
        cases over
        · go_wp2_with fail
          go_ret2
          obtain ⟨e1, e2⟩ := Hno.out (by trivial)
          have hn2 := Hn.out
          rw [← e1, if_neg (by omega)] at hn2
          exact ⟨by rw [hn2]; rfl, HB1.out.trans (HB.out.mono (by omega))⟩
        · go_wp2_with fail
          go_ret2
          have hn2 := Hn.out
          rw [if_pos (Hov.out (by trivial))] at hn2
          exact ⟨by rw [hn2]; rfl, HB1.out.trans (HB.out.mono (by omega))⟩
end Go.Proofs.Ytmflopeedofkhaa

namespace Go.Proofs.Ytmflopeedofkhaa
set_option linter.unusedSimpArgs false
set_option linter.unusedVariables false
set_option maxRecDepth 100000
open Go.RowKit

def maxDigits : List UInt8 := [49, 56, 52, 52, 54, 55, 52, 52, 48, 55, 51, 55, 48, 57, 53, 53, 49, 54, 49, 53]
theorem val_maxDigits : val maxDigits = 18446744073709551615 := by decide
theorem val_lower : ∀ (l : List UInt8), l ≠ [] → (1 < l.length → l.head? ≠ some 48) → l.all isDig = true → 20 < l.length → 18446744073709551615 < val l
  | [], h, _, _, _ => absurd rfl h
  | c :: r, _, h0, hall, hlen => by
    have h1 := h0 (by omega)
    simp only [List.all_cons, Bool.and_eq_true] at hall
    obtain ⟨d1, d2⟩ := (isDig_iff c).1 hall.1
    have hc : c.toNat ≠ 48 := fun e => h1 (by simp only [List.head?_cons, Option.some.injEq]; exact UInt8.toNat_inj.1 e)
    have hd : 1 ≤ digV c := by unfold digV; omega
    have e : val (c :: r) = valFrom (digV c) r := by show valFrom (10 * 0 + digV c) r = _; rw [Nat.mul_zero, Nat.zero_add]
    rw [e]
    have grow : ∀ (l : List UInt8) n, n * 10 ^ l.length ≤ valFrom n l := by
      intro l
      induction l with
      | nil => intro n; simp [valFrom]
      | cons x l ih =>
        intro n
        have := ih (10 * n + digV x)
        show _ ≤ valFrom (10 * n + digV x) l
        refine Nat.le_trans ?_ this
        rw [List.length_cons, Nat.pow_succ, Nat.mul_comm (10 ^ l.length) 10, ← Nat.mul_assoc]
        exact Nat.mul_le_mul_right _ (by omega)
    have h2 := grow r (digV c)
    have h3 : 10 ^ 20 ≤ 10 ^ r.length := Nat.pow_le_pow_right (by omega) (by simp at hlen; omega)
    have h4 : 10 ^ 20 ≤ digV c * 10 ^ r.length := Nat.le_trans h3 (Nat.le_mul_of_pos_left _ (by omega))
    have h5 : (10 : Nat) ^ 20 = 100000000000000000000 := rfl
    omega
/-- the reference's test of length and of the digits: too great for 64 bits? -/
theorem great_iff (l : List UInt8) (h0 : l ≠ []) (h1 : 1 < l.length → l.head? ≠ some 48) (hall : l.all isDig = true) :
    (20 < l.length ∨ (l.length = 20 ∧ maxDigits < l)) ↔ 18446744073709551615 < val l := by
  constructor
  · rintro (h | ⟨h, h2⟩)
    · exact val_lower l h0 h1 hall h
    · have := (lex_val maxDigits l (by rw [h]; rfl) (by decide) hall 0 0).2.2 rfl
      rw [decide_eq_true h2] at this
      have h3 := of_decide_eq_true this.symm
      have h4 : valFrom 0 maxDigits = 18446744073709551615 := val_maxDigits
      rw [h4] at h3
      exact h3
  · intro h
    by_cases h20 : 20 < l.length
    · exact .inl h20
    · have hle : l.length = 20 := by
        by_cases e : l.length = 20
        · exact e
        · have h3 := valFrom_lt l hall 0
          have h4 : 10 ^ l.length ≤ 10 ^ 19 := Nat.pow_le_pow_right (by omega) (by omega)
          have h5 : (10 : Nat) ^ 19 = 10000000000000000000 := rfl
          have h6 : val l = valFrom 0 l := rfl
          omega
      refine .inr ⟨hle, ?_⟩
      have := (lex_val maxDigits l (by rw [hle]; rfl) (by decide) hall 0 0).2.2 rfl
      have h4 : valFrom 0 maxDigits = 18446744073709551615 := val_maxDigits
      have h3 : decide (valFrom 0 maxDigits < valFrom 0 l) = true := by rw [h4]; exact decide_eq_true h
      rw [h3] at this
      exact of_decide_eq_true this

theorem bytesLess_dec : ∀ (x y : List UInt8), Op.bytesLess x y = decide (x < y)
  | [], [] => by simp [Op.bytesLess]
  | _ :: _, [] => by simp [Op.bytesLess]
  | [], _ :: _ => by simp [Op.bytesLess]
  | a :: x, b :: y => by
    rw [Op.bytesLess, bytesLess_dec x y, Bool.eq_iff_iff]
    simp [List.cons_lt_cons_iff]
theorem list_tri : ∀ (x y : List UInt8), x < y ∨ x = y ∨ y < x
  | [], [] => .inr (.inl rfl)
  | [], b :: y => .inl (by simp)
  | a :: x, [] => .inr (.inr (by simp))
  | a :: x, b :: y => by
    rw [List.cons_lt_cons_iff, List.cons_lt_cons_iff]
    rcases Nat.lt_trichotomy a.toNat b.toNat with h | h | h
    · exact .inl (.inl (UInt8.lt_iff_toNat_lt.2 h))
    · have hab : a = b := UInt8.toNat_inj.1 h
      subst hab
      rcases list_tri x y with h | h | h
      · exact .inl (.inr ⟨rfl, h⟩)
      · subst h; exact .inr (.inl rfl)
      · exact .inr (.inr (.inr ⟨rfl, h⟩))
    · exact .inr (.inr (.inl (UInt8.lt_iff_toNat_lt.2 h)))
theorem str_gtr (t : TypeId) (l m : List UInt8) (w : World) : (binOp .gtr t (.string (bs l)) (.string ⟨m.toArray⟩)).run Try.prog w = .ok (.bool (decide (m < l))) w := by
  have e0 : binOp .gtr t (.string (bs l)) (.string ⟨m.toArray⟩) = pure (.bool !(Op.bytesLess (bs l).toList (ByteArray.mk m.toArray).toList || (bs l).toList == (ByteArray.mk m.toArray).toList)) := by simp [binOp, Op.stringOp]
  rw [e0]
  have e : (ByteArray.mk m.toArray).toList = m := bs_toList m
  rw [bs_toList, e, bytesLess_dec]
  have h : (!(decide (l < m) || l == m)) = decide (m < l) := by
    rw [Bool.eq_iff_iff]
    simp only [Bool.not_eq_true', Bool.or_eq_false_iff, decide_eq_false_iff_not, beq_eq_false_iff_ne, decide_eq_true_eq]
    constructor
    · rintro ⟨h1, h2⟩
      rcases list_tri l m with h | h | h
      · exact absurd h h1
      · exact absurd h h2
      · exact h
    · intro h
      exact ⟨List.lt_asymm h, fun e => by subst e; exact List.lt_irrefl _ h⟩
  rw [h]
  rfl
def rnRel (l : List UInt8) (w : World) (i : Value) (wr : World) : Prop :=
  ∃ k : Nat, k ≤ l.length ∧ i = .int .i64 k ∧ (l.take k).all isDig = true ∧ wr = w
def rnRel2 (l : List UInt8) (w : World) (n i : Value) (wr : World) : Prop :=
  ∃ k : Nat, k ≤ l.length ∧ i = .int .i64 k ∧ n = .int .u64 (val (l.take k)) ∧ wr = w

set_option maxRecDepth 100000 in
set_option maxHeartbeats 3200000 in
theorem rnum_any (l : List UInt8) (most : Nat) (hl : l.length ≤ 1073741824) (hmost : most < 18446744073709551616) (w : World) :
    Calls Try.prog 78 #[.string (bs l), .int .u64 most] w fun e w' => e = numOut (num l most) ∧ w' = w := by
  have hsz := bs_size l
  by_cases h0 : l = []
  · subst h0
    go_enter Try.func78, Try.ntmps78
    go_wp2_with fail
    go_ret2
    exact ⟨rfl, rfl⟩
  have hlp : 0 < l.length := List.length_pos_iff.2 h0
  have hlp2 : ((l.length : Int) == 0) = false := by simp; omega
  have hget0 := bs_get l 0 (by rw [bs_size]; exact hlp)
  by_cases hz : 1 < l.length ∧ (l[0] == 48) = true
  · have hb3 : num l most = (0, 3) := by
      unfold num bad3
      have : l.head? = some 48 := by rw [List.head?_eq_getElem?, List.getElem?_eq_getElem hlp]; exact congrArg some (by simpa using hz.2)
      simp [hz.1, this]
    have n48 := eqB l[0] 48 48 rfl
    rw [hz.2] at n48
    have hlen : decide ((1 : Int) < l.length) = true := by simp; omega
    have Hb3 := Lib.hid hb3
    obtain ⟨hz1, hz2⟩ := hz
    clear hb3 hz2
    go_enter Try.func78, Try.ntmps78
    go_wp2_with fail
    go_ret2
    exact ⟨by rw [Hb3.out]; rfl, rfl⟩
  have hz48 : 1 < l.length → l.head? ≠ some 48 := by
    intro h1 h2
    rw [List.head?_eq_getElem?, List.getElem?_eq_getElem hlp] at h2
    exact hz ⟨h1, by simpa using Option.some.inj h2⟩
  have hbad : bad3 l = !l.all isDig := by
    unfold bad3
    have h1 : l.isEmpty = false := by simpa using h0
    rw [h1, Bool.false_or]
    have h2 : (decide (1 < l.length) && l.head? == some 48) = false := by
      rw [Bool.eq_false_iff]; intro h; simp only [Bool.and_eq_true, decide_eq_true_eq, beq_iff_eq] at h; exact hz48 h.1 h.2
    rw [h2, Bool.false_or]
  have n48 := eqB l[0] 48 48 rfl
  have hgreat := great_iff l h0 hz48
  have key : (decide ((1 : Int) < l.length) = false) ∨ (decide ((1 : Int) < l.length) = true ∧ (((l[0].toNat : Int)) == 48) = false) := by
    by_cases h : 1 < l.length
    · refine .inr ⟨by simp; omega, ?_⟩
      rw [n48]
      cases h2 : l[0] == 48 with
      | false => rfl
      | true => exact absurd ⟨h, h2⟩ hz
    · exact .inl (by simp; omega)
  have Hbad := Lib.hid hbad
  have Hgr := Lib.hid hgreat
  clear n48 hz hbad hz48 hgreat
  go_enter Try.func78, Try.ntmps78
  rcases key with h1 | ⟨h1, h2⟩
  all_goals
    go_wp2_with fail
    go_loopw [6] (fun i wr => rnRel l w i wr) (fun i _ => l.length - (intOf i).toNat)
    case atStart => exact ⟨0, by omega, rfl, rfl, rfl⟩
    case round =>
      obtain ⟨k, hk, rfl, hall, rfl⟩ := hrel
      by_cases hlt : k < l.length
      · have hget := bs_get l k (by rw [bs_size]; exact hlt)
        have hall2 : isDig l[k] = true → (l.take (k + 1)).all isDig = true := fun h => by rw [take_next l k hlt, List.all_append, hall, List.all_cons, h]; rfl
        have hnot : isDig l[k] = false → num l most = (0, 3) := fun h => by
          have h1 : l.all isDig = false := by
            rw [List.all_eq_false]; exact ⟨l[k], List.getElem_mem hlt, by rw [h]; simp⟩
          unfold num; rw [Hbad.out, h1]; rfl
        have hiff := isDig_iff l[k]
        generalize l[k] = c at *
        have Hnot := Lib.hid hnot
        have Hall2 := Lib.hid hall2
        clear hall hnot hall2
        by_cases hd : isDig c = true
        · obtain ⟨d1, d2⟩ := hiff.1 hd
          have hl48 : decide ((c.toNat : Int) < 48) = false := by simp; omega
          have hg57 : decide ((57 : Int) < c.toNat) = false := by simp; omega
          clear hiff
          go_wp2_with fail
          go_roundw
          case rel => exact ⟨k + 1, by omega, by go_num, Hall2.out hd, rfl⟩
          case measure => simp [intOf]; omega
        · have hd' : isDig c = false := by simpa using hd
          have Hd := Lib.hid (Hnot.out hd')
          have hcases : decide ((c.toNat : Int) < 48) = true ∨ (decide ((c.toNat : Int) < 48) = false ∧ decide ((57 : Int) < c.toNat) = true) := by
            rw [isDig_iff] at hd
            by_cases x : c.toNat < 48
            · exact .inl (by simp; omega)
            · exact .inr ⟨by simp; omega, by simp; omega⟩
          clear hd hiff
          rcases hcases with x1 | ⟨x1, x2⟩
          all_goals
            go_wp2_with fail
            go_ret2
            exact ⟨by rw [Hd.out]; rfl, rfl⟩
      · obtain rfl : k = l.length := by omega
        rw [List.take_length] at hall
        have hg := Hgr.out hall
        have hb : bad3 l = false := by rw [Hbad.out, hall]; rfl
        have hn : num l most = if most < val l then (0, 9) else (val l, 0) := by unfold num; rw [hb]; rfl
        by_cases hgt : 20 < l.length ∨ (l.length = 20 ∧ maxDigits < l)
        · have hn2 : num l most = (0, 9) := by rw [hn, if_pos (by have := hg.1 hgt; omega)]
          have Hn := Lib.hid hn2
          clear hn hn2 hb hg
          have kk : decide ((20 : Int) < l.length) = true ∨ (decide ((20 : Int) < l.length) = false ∧ ((l.length : Int) == 20) = true ∧ decide (maxDigits < l) = true) := by
            rcases hgt with h | ⟨h, h2⟩
            · exact .inl (by simp; omega)
            · exact .inr ⟨by simp; omega, by simp; omega, decide_eq_true h2⟩
          clear hgt
          have hsg := str_gtr 9 l maxDigits
          unfold maxDigits at kk hsg
          rcases kk with k1 | ⟨k1, k2, k3⟩
          all_goals
            first | (rw [k3] at hsg; clear k3) | clear hsg
            go_wp2_with fail
            go_ret2
            exact ⟨by rw [Hn.out]; rfl, rfl⟩
        · have hv : val l ≤ 18446744073709551615 := by
            rcases Nat.lt_or_ge 18446744073709551615 (val l) with h | h
            · exact absurd (hg.2 h) hgt
            · exact h
          have Hn := Lib.hid hn
          have kk : (decide ((20 : Int) < l.length) = false) ∧ (((l.length : Int) == 20) = false ∨ (((l.length : Int) == 20) = true ∧ decide (maxDigits < l) = false)) := by
            refine ⟨by simp; omega, ?_⟩
            by_cases x : l.length = 20
            · exact .inr ⟨by simp; omega, by simp only [decide_eq_false_iff_not]; exact fun h => hgt (.inr ⟨x, h⟩)⟩
            · exact .inl (by simp; omega)
          have mono : ∀ k, val (l.take k) ≤ val l := fun k => by
            have := valFrom_ge (l.drop k) (val (l.take k))
            have h2 : valFrom (val (l.take k)) (l.drop k) = val l := by unfold val; rw [← valFrom_append, List.take_append_drop]
            omega
          have Mono := Lib.hid mono
          clear hgt hn hb hg mono
          have hsg := str_gtr 9 l maxDigits
          unfold maxDigits at kk hsg
          have Hall := Lib.hid (List.all_eq_true.1 hall)
          obtain ⟨k1, k2⟩ := kk
          clear hall
          rcases k2 with k2 | ⟨k2, k3⟩
          all_goals
            first | (rw [k3] at hsg; clear k3) | clear hsg
            go_wp2_with fail
            go_loopw [7, 8] (fun n i wr' => rnRel2 l wr n i wr') (fun _ i _ => l.length - (intOf i).toNat)
            case atStart => exact ⟨0, by omega, rfl, rfl, rfl⟩
            case round =>
              obtain ⟨k, hk, rfl, rfl, rfl⟩ := hrel
              by_cases hlt : k < l.length
              · have hget := bs_get l k (by rw [bs_size]; exact hlt)
                have hvn := val_next (l.take k) l[k]
                rw [← take_next l k hlt] at hvn
                unfold digV at hvn
                have hm1 := Mono.out (k + 1)
                obtain ⟨d1, d2⟩ := (isDig_iff l[k]).1 (Hall.out l[k] (List.getElem_mem hlt))
                generalize l[k] = c at *
                generalize val (l.take k) = v at *
                obtain ⟨v', hv'⟩ : ∃ v', val (l.take (k + 1)) = v' := ⟨_, rfl⟩
                rw [hv'] at hvn hm1
                have Hv := Lib.hid hv'
                clear hv'
                go_wp2_with fail
                go_roundw
                case rel => exact ⟨k + 1, by omega, by go_num, by rw [Hv.out, hvn]; go_num, rfl⟩
                case measure => simp [intOf]; omega
              · obtain rfl : k = l.length := by omega
                rw [List.take_length]
                by_cases hmv : most < val l
                · have hn2 := Hn.out
                  rw [if_pos hmv] at hn2
                  have Hn2 := Lib.hid hn2
                  have hd : decide ((most : Int) < val l) = true := by simp; omega
                  generalize val l = v at *
                  clear hn2
                  go_wp2_with fail
                  go_ret2
                  exact ⟨by rw [Hn2.out]; rfl, rfl⟩
                · have hn2 := Hn.out
                  rw [if_neg hmv] at hn2
                  have Hn2 := Lib.hid hn2
                  have hd : decide ((most : Int) < val l) = false := by simp; omega
                  generalize val l = v at *
                  clear hn2
                  go_wp2_with fail
                  go_ret2
                  exact ⟨by rw [Hn2.out]; rfl, rfl⟩
end Go.Proofs.Ytmflopeedofkhaa

namespace Go.Proofs.Ytmflopeedofkhaa
set_option linter.unusedSimpArgs false
set_option linter.unusedVariables false
set_option maxRecDepth 100000
open Go.RowKit

end Go.Proofs.Ytmflopeedofkhaa

namespace Go.Proofs.Ytmflopeedofkhaa
set_option linter.unusedSimpArgs false
set_option linter.unusedVariables false
set_option maxRecDepth 100000
open Go.RowKit

theorem digits_step (n : Nat) : if n / 10 = 0 then digits n = [UInt8.ofNat (48 + n % 10)] else digits n = digits (n / 10) ++ [UInt8.ofNat (48 + n % 10)] := by
  split
  · rename_i h
    rw [digits, if_pos (by omega), Nat.mod_eq_of_lt (by omega)]
  · rename_i h
    rw [digits, if_neg (by omega)]
theorem digNat (n : Nat) : (UInt8.ofNat (48 + n % 10)).toNat = 48 + n % 10 := by
  simp [UInt8.toNat_ofNat]; omega
theorem digits_20 (n : Nat) (h : n < 18446744073709551616) : (digits n).length ≤ 20 := digits_len n 20 (by omega) (Nat.lt_of_lt_of_le h (by decide))

set_option maxRecDepth 100000 in
theorem slice_arr (q B : Nat) (hq : q < 20) (w : World) : (Instr.sliceAt 109 (.pointer (some ⟨B, 0, none⟩)) (some (.int .i64 q)) none none).run Try.prog w = .ok (.slice (some ⟨B, q, none⟩) (20 - q) (20 - q)) w := by
  have hl : Try.prog.arrayLen 109 = 20 := by kernel_rfl
  rw [run_sliceAt_array_l (P := Try.prog) w 109 ⟨B, 0, none⟩ Try.underlying109 .i64 q (by omega) (by rw [hl]; omega), hl]
  have hsz : (sizeOf (Try.prog.elem 109)).run Try.prog w = .ok 1 w := by kernel_rfl
  rw [hsz]
  simp only [Result.andThen, slicedAt, Int.toNat_natCast]
  rw [if_neg (by omega)]
  simp [Addr.add_lit]
/-- the array's tail holds the digits so far -/
def putRel (n0 : Nat) (B : Nat) (w : World) (n a : Value) (wr : World) : Prop :=
  ∃ (m p : Nat) (T : List UInt8) (C : Array Value) (e : TypeId), n = .int .u64 m ∧ a = .int .i64 (p : Int) ∧ p + T.length = 20 ∧ m ≤ n0 ∧ digits n0 = digits m ++ T ∧ Below B w wr ∧ B < wr.heap.size ∧
    wr.heap[B]? = some (.cells C e (0, 0)) ∧ C.size = 20 ∧ C.toList.drop p = byteVals T ∧ (0 < T.length → 0 < m)

set_option maxRecDepth 100000 in
set_option maxHeartbeats 1600000 in
theorem put_any (l : List UInt8) (n : Nat) (hl : l.length ≤ 1073741824) (hn : n < 18446744073709551616) (w : World) (ao : Option Addr) (cap : Nat) (g : Option Nat) (ho : Own w ao cap g 5 1 l.length (byteVals l)) :
    Calls Try.prog 39 #[.slice ao l.length cap, .int .u64 n] w fun e w' => ∃ ao' cap' g', e = .returned (.slice ao' (l.length + (digits n).length) cap') ∧
      Own w' ao' cap' g' 5 1 (l.length + (digits n).length) (byteVals (l ++ digits n)) ∧ (∀ k, g' = some k → g = some k ∨ w.heap.size ≤ k) ∧ Only (fun k => g = some k) w w' := by
  have hE := bytesElem
  have h20 := digits_20 n hn
  have Ho := Lib.hid ho
  clear ho
  go_enter Try.func39, Try.ntmps39
  go_wp2_with fail
  go_loopw [1, 6] (fun m a wr => putRel n w.heap.size w m a wr) (fun m _ _ => (intOf m).toNat)
  case atStart => exact ⟨n, 20, [], _, _, rfl, rfl, rfl, Nat.le_refl _, by simp, ext_alloc _ _, by simp, heap_alloc_new w _, rfl, rfl, fun h => absurd h (by simp)⟩
  case round =>
    obtain ⟨m, p, T, C, e, rfl, rfl, hp, hm, hd, hB, hBs, hh, hCs, hCd, hTm⟩ := hrel
    have hlenD : (digits n).length = (digits m).length + T.length := by rw [hd, List.length_append]
    have hdm := List.length_pos_iff.2 (digits_ne m)
    obtain ⟨q, rfl⟩ : ∃ q, p = q + 1 := ⟨p - 1, by omega⟩
    have hq20 : q < 20 := by omega
    have hqi : (0 : Int) ≤ (q : Int) ∧ (q : Int) < 20 := by omega
    have hcell : wr.cell? ⟨w.heap.size, q, none⟩ = some (C[q]'(by omega)) := by
      rw [cell_of_row wr _ q C e (0, 0) hh, Array.getElem?_eq_getElem (by omega)]
    have hfz : wr.frozen? ⟨w.heap.size, q, none⟩ = false := by simp [World.frozen?, hh]
    have hh2 : ∀ v, (wr.setCell ⟨w.heap.size, q, none⟩ v).heap[w.heap.size]? = some (.cells (C.setIfInBounds q v) e (0, 0)) := fun v => heap_setCells_in w.heap.size e (0, 0) [v] q wr C hh
    have hB2 : ∀ v, Below w.heap.size w (wr.setCell ⟨w.heap.size, q, none⟩ v) := fun v => hB.setCell (by simp) v
    have hstep := digits_step m
    have hmul := digNat m
    have hdrop : ((C.setIfInBounds q (.int .u8 (48 + (m : Int) % 10))).toList.drop q) = byteVals (UInt8.ofNat (48 + m % 10) :: T) := by
      have h1 : q < (C.setIfInBounds q (.int .u8 (48 + (m : Int) % 10))).toList.length := by simp; omega
      rw [List.drop_eq_getElem_cons h1]
      simp only [byteVals, List.map_cons]
      congr 1
      · simp; omega
      · rw [Array.toList_setIfInBounds, List.drop_set_of_lt (by omega)]
        exact hCd
    have hsz : ∀ v, (wr.setCell ⟨w.heap.size, q, none⟩ v).heap.size = wr.heap.size := fun v => by simp
    generalize hc : UInt8.ofNat (48 + m % 10) = c at *
    have HB := Lib.hid hB2
    have Hh := Lib.hid hh2
    have Hd := Lib.hid hd
    have Hdrop := Lib.hid hdrop
    have Hsz := Lib.hid hsz
    clear hB hB2 hh2 hd hdrop hCd hh hc hdm hsz hlenD
    rw [show ((q + 1 : Nat) : Int) = (q : Int) + 1 from rfl]
    by_cases h0 : m / 10 = 0
    · have hz : ((m : Int) / 10 == 0) = true := by simp; omega
      rw [if_pos h0] at hstep
      have hdd : digits n = c :: T := by rw [Hd.out, hstep]; rfl
      have hsl := slice_arr q w.heap.size hq20
      have hlen : 20 - q = (c :: T).length := by simp; omega
      have hh3 := Hh.out (.int .u8 (48 + (m : Int) % 10))
      have ho2 : Own (wr.setCell ⟨w.heap.size, q, none⟩ (.int .u8 (48 + (m : Int) % 10))) ao cap g 5 1 l.length (byteVals l) := Ho.out.ext (HB.out _)
      have hsrc : Src Try.prog 1 22 (.slice (some ⟨w.heap.size, q, none⟩) (20 - q) (20 - q)) (20 - q) (byteVals (c :: T)) (wr.setCell ⟨w.heap.size, q, none⟩ (.int .u8 (48 + (m : Int) % 10))) := by
        refine Src.ofSlice _ Try.underlying22 ⟨w.heap.size, q, none⟩ (20 - q) (20 - q) _ (by rw [hlen]; simp [byteVals]) (fun j u hu => ?_) (fun u hu => ?_)
        · rw [Addr.add_lit, cell_of_row _ _ _ _ e (0, 0) hh3]
          rw [← Hdrop.out, List.getElem?_drop] at hu
          rw [← Array.getElem?_toList]; exact hu
        · simp only [byteVals, List.mem_map] at hu
          obtain ⟨x, _, rfl⟩ := hu
          rfl
      have Hdd := Lib.hid hdd
      have Hlen := Lib.hid hlen
      clear hdd hstep hlen hh3
      go_wp2_with (at_builtin; refine wpList_app rfl (.tmp 19) (.tmp 21) 22 22 rfl hE ho2 rfl rfl hsrc (by simp [maxLen]; omega) (by omega) ?_; intro ao' cap' g' w1 ho' hg' hon)
      go_ret
      rw [Hdd.out, ← Hlen.out]
      refine ⟨ao', cap', g', rfl, by simpa [byteVals] using ho', fun k hk => ?_, ?_⟩
      · rcases hg' with rfl | rfl
        · exact .inl hk
        · cases hk; have := HB.out (.int .u8 0); right; have := this.size; simp at this ⊢; omega
      · exact (Only.of_below (fp := fun k => g = some k) (HB.out _)).trans hon (fun i _ h => h)
    · have hz : ((m : Int) / 10 == 0) = false := by simp; omega
      rw [if_neg h0] at hstep
      have Hst := Lib.hid hstep
      clear hstep
      go_wp2_with fail
      go_roundw
      case rel =>
        refine ⟨m / 10, q, c :: T, _, e, by simp, rfl, by simp; omega, by omega, by rw [Hd.out, Hst.out]; simp, HB.out _, by rw [Hsz.out]; exact hBs, Hh.out _, by simp; omega, Hdrop.out, fun _ => by omega⟩
      case measure => simp [intOf]; omega

theorem bs_append (a b : List UInt8) : bs a ++ bs b = bs (a ++ b) := by
  have h : (bs a ++ bs b).data = (bs (a ++ b)).data := by rw [ByteArray.data_append]; simp [bs]
  cases h2 : bs a ++ bs b with
  | mk d => rw [h2] at h; simp only [bs] at h ⊢; rw [h]
theorem str_add (a b : List UInt8) (h : a.length + b.length ≤ 9223372036854775807) (w : World) : (Op.stringOp .add (bs a) (bs b)).run Try.prog w = .ok (.string (bs (a ++ b))) w := by
  rw [run_string_add_sum w (bs a) (bs b) (by rw [bs_size, bs_size]; exact h), bs_append]

set_option maxRecDepth 100000 in
set_option maxHeartbeats 1600000 in
theorem rput_any : ∀ (n : Nat), n < 18446744073709551616 → ∀ (w : World),
    Calls Try.prog 35 #[.int .u64 n] w fun e w' => e = .returned (.string (bs (digits n))) ∧ Below w.heap.size w w' := by
  intro n
  induction n using Nat.strongRecOn with
  | _ n ih =>
    intro hn w
    have hstep := digits_step n
    have hmul := digNat n
    by_cases h : n < 10
    · have hd : decide ((n : Int) < 10) = true := by simp; omega
      rw [if_pos (by omega)] at hstep
      have hm : (n : Int) % 256 = n := by omega
      have hcv := run_string_of (P := Try.prog) (src := 22) (dst := 9) (w := w.alloc (.cells #[.int .u8 (48 + (n : Int))] 5)) Try.underlying22 Try.underlying5 Try.underlying9 (ao := some ⟨w.heap.size, 0, none⟩) (cap := 1) (W := digits n)
        (.inr ⟨w.heap.size, 0, rfl, fun j u hu => by
          rw [hstep] at hu
          have hj : j = 0 := by have := (List.getElem?_eq_some_iff.1 hu).1; simpa [byteVals] using this
          subst hj
          simp only [byteVals, List.map_cons, List.map_nil, List.getElem?_cons_zero, Option.some.injEq, hmul] at hu
          rw [← hu, Nat.zero_add, World.cell?_alloc_new]
          simp; omega⟩)
      have hl1 : (digits n).length = 1 := by rw [hstep]; rfl
      rw [hl1] at hcv
      clear hstep hmul
      go_enter Try.func35, Try.ntmps35
      go_wp2_with fail
      go_ret
      exact ⟨rfl, ext_alloc _ _⟩
    · have hd : decide ((n : Int) < 10) = false := by simp; omega
      have h1 := ih (n / 10) (by omega) (by omega)
      have h2 := ih (n % 10) (by omega) (by omega)
      rw [if_neg (by omega)] at hstep
      have hl1 := digits_20 (n / 10) (by omega)
      have hl2 := digits_20 (n % 10) (by omega)
      have hdm : digits (n % 10) = [UInt8.ofNat (48 + n % 10)] := by rw [digits, if_pos (by omega)]
      rw [← hdm] at hstep
      have hadd := str_add (digits (n / 10)) (digits (n % 10)) (by omega)
      rw [← hstep] at hadd
      simp only [Int.natCast_ediv, Int.natCast_emod] at h1 h2
      generalize digits n = d0 at *
      generalize digits (n / 10) = d1 at *
      generalize digits (n % 10) = d2 at *
      clear hstep hmul ih hdm
      go_enter Try.func35, Try.ntmps35
      go_wp2_with (first
        | (go_at_call 35; refine (h1 _).mono ?_; rintro e w1 ⟨rfl, hB1⟩; clear h1)
        | (go_at_call 35; refine (h2 _).mono ?_; rintro e w2 ⟨rfl, hB2⟩; clear h2))
      go_ret
      exact ⟨rfl, hB1.trans (hB2.mono hB1.size)⟩
end Go.Proofs.Ytmflopeedofkhaa

namespace Go.Proofs.Ytmflopeedofkhaa
set_option linter.unusedSimpArgs false
set_option linter.unusedVariables false
set_option maxRecDepth 100000
open Go.RowKit

theorem Rd.conv {w : World} {ao : Option Addr} {l : List UInt8} (h : Rd w ao l.length (byteVals l)) (cap : Nat) : (convert 22 9 (.slice ao l.length cap)).run Try.prog w = .ok (.string (bs l)) w := by
  rcases h.2 with h2 | ⟨b, off, h1, _, hc⟩
  · obtain rfl := List.eq_nil_of_length_eq_zero h2
    cases ao with
    | none => exact run_string_of Try.underlying22 Try.underlying5 Try.underlying9 (.inl ⟨rfl, rfl⟩)
    | some a =>
      rw [run_convert_bytes_string w 22 9 5 _ _ _ Try.underlying22 Try.underlying5 Try.underlying9]
      have h2 : (loadCells a 0).run Try.prog w = .ok ((([] : List Int).map (Value.int .u8))).toArray w := by
        have h1 := run_firstCells_some (P := Try.prog) w 1 0 a 0 cap [] rfl (fun j u hu => by simp at hu)
        simp only [Builtin.firstCells, Nat.mul_one] at h1
        exact h1
      simp only [List.length_nil]
      rw [run_bytesToString w _ _ _ _ h2]
      rfl
  · refine run_string_of Try.underlying22 Try.underlying5 Try.underlying9 ?_
    exact .inr ⟨b, off, h1, fun j u hu => by rw [hc j (by have := (List.getElem?_eq_some_iff.1 hu).1; simpa [byteVals] using this), hu]⟩

theorem puts_below {w w1 w2 w3 : World} {o : Obj} {g1 : Option Nat} (hon1 : Only (fun k => some w.heap.size = some k) (w.alloc o) w1) (hg1 : g1 = some w.heap.size ∨ g1 = some (w.alloc o).heap.size)
    (hon2 : Only (fun k => g1 = some k) w1 w2) (hB3 : Below w2.heap.size w2 w3) : Below w.heap.size w w3 := by
  have hs0 : (w.alloc o).heap.size = w.heap.size + 1 := by simp
  have hs1 := hon1.size
  have hs2 := hon2.size
  have hb1 : Below w.heap.size (w.alloc o) w1 := hon1.below (by omega) (fun k hk e => by cases e; omega)
  have hb2 : Below w.heap.size w1 w2 := hon2.below (by omega) (fun k hk e => by
    subst e
    rcases hg1 with h | h
    · have := Option.some.inj h; omega
    · have := Option.some.inj h; omega)
  exact (((ext_alloc w o).trans hb1).trans hb2).trans (hB3.mono (by omega))

end Go.Proofs.Ytmflopeedofkhaa

namespace Go.Proofs.Ytmflopeedofkhaa
set_option linter.unusedSimpArgs false
set_option linter.unusedVariables false
set_option maxRecDepth 100000
open Go.RowKit

theorem linesGo_len : ∀ (l w : List UInt8), (linesGo w l).length ≤ l.length + 1 ∧ (w = [] → (linesGo w l).length ≤ l.length)
  | [], w => by unfold linesGo; split <;> simp_all
  | c :: l, w => by
    unfold linesGo
    have h1 := linesGo_len l []
    have h2 := linesGo_len l (w ++ [c])
    simp only [List.length_cons]
    refine ⟨?_, fun h => ?_⟩
    · split
      · simp only [List.length_cons]; have := h1.2 rfl; omega
      · omega
    · subst h
      split
      · simp only [List.length_cons]; have := h1.2 rfl; omega
      · simp at h2 ⊢; omega
theorem lines_len (l : List UInt8) : (lines l).length ≤ l.length := (linesGo_len l []).2 rfl

def refLRel (l : List UInt8) (w : World) (o wd i : Value) (wr : World) : Prop :=
  ∃ (k : Nat) (O : List (List UInt8)) (W : List UInt8) (ao : Option Addr) (cap : Nat) (g : Option Nat) (aw : Option Addr) (capw : Nat) (gw : Option Nat),
    k ≤ l.length ∧ i = .int .i64 k ∧ o = .slice ao O.length cap ∧ wd = .slice aw W.length capw ∧ lines l = O ++ linesGo W (l.drop k) ∧ O.length ≤ k ∧ W.length ≤ k ∧
    Own wr ao cap g 9 1 O.length (strCells O) ∧ Own wr aw capw gw 5 1 W.length (byteVals W) ∧ (∀ b, g = some b → gw ≠ some b) ∧
    (∀ b, g = some b → w.heap.size ≤ b) ∧ (∀ b, gw = some b → w.heap.size ≤ b) ∧ Below w.heap.size w wr

set_option maxRecDepth 100000 in
set_option maxHeartbeats 1600000 in
theorem rlines_any (l : List UInt8) (hl : l.length ≤ 1073741824) (ao0 : Option Addr) (cap0 : Nat) (w : World) (hr : Rd w ao0 l.length (byteVals l)) :
    Calls Try.prog 14 #[.slice ao0 l.length cap0] w (RetOwn 9 1 (lines l).length (strCells (lines l)) w) := by
  have hE := strsElem
  have hEb := bytesElem
  have Hr := Lib.hid hr
  clear hr
  go_enter Try.func14, Try.ntmps14
  go_wp2_with fail
  go_loopw [3, 4, 5, 10] (fun o wd _ i wr => refLRel l w o wd i wr) (fun _ _ _ i _ => l.length - (intOf i).toNat)
  case atStart =>
    refine ⟨0, [], [], _, _, some w.heap.size, _, _, some (w.heap.size + 1), by omega, rfl, rfl, rfl, rfl, by simp, by simp, (Own.empty w _ _).alloc _, Own.emptyAt _ _ _ _ (by simp), ?_, ?_, ?_, ?_⟩
    · intro b h; cases h; simp
    · intro b h; cases h; omega
    · intro b h; cases h; omega
    · exact (ext_alloc w _).alloc (by simp) _
  case round =>
    obtain ⟨k, O, W, ao, cap, g, aw, capw, gw, hk, rfl, rfl, rfl, hw, hO, hW, ho, how, hgg, hg1, hg2, hB⟩ := hrel
    have hconv := fun o => run_string_own (P := Try.prog) (src := 22) (dst := 9) Try.underlying22 Try.underlying5 Try.underlying9 (how.alloc o)
    have hconv0 := run_string_own (P := Try.prog) (src := 22) (dst := 9) Try.underlying22 Try.underlying5 Try.underlying9 how
    have Hw := Lib.hid hw
    have Hg := Lib.hid hgg
    have Hg1 := Lib.hid hg1
    have Hg2 := Lib.hid hg2
    have HB := Lib.hid hB
    have hrd := Hr.out.ext hB
    clear hw hgg hg1 hg2 hB
    by_cases hlt : k < l.length
    · obtain ⟨b0, off0, hao0, hb0, hc0⟩ := hrd.pos (by omega)
      have hcell := hc0 k hlt
      simp only [byteVals, List.getElem?_map, List.getElem?_eq_getElem hlt, Option.map_some] at hcell
      have hdrop : l.drop k = l[k] :: l.drop (k + 1) := List.drop_eq_getElem_cons hlt
      have hir : (k : Int) < (l.length : Int) := by omega
      generalize hc : l[k] = c at hcell hdrop
      subst hao0
      have Hd := Lib.hid hdrop
      clear hc hdrop hc0 hrd
      have n10 := eqB c 10 10 rfl
      cases hsp : c == 10 with
      | false =>
        rw [hsp] at n10
        have Hsp := Lib.hid hsp
        clear hsp
        go_wp2_with (at_builtin; refine wpList_app rfl (.tmp 24) (.tmp 29) 22 22 rfl hEb (how.alloc _) rfl rfl (srcOne Try.underlying22 _ _ _ _ rfl) (by simp [maxLen]; omega) (by omega) ?_; intro ao' cap' g' w1 ho' hg' hon)
        go_roundw
        case rel =>
          refine ⟨k + 1, O, W ++ [c], ao, cap, g, ao', cap', g', by omega, by go_num, rfl, by simp, ?_, by omega, by simp; omega, (ho.alloc _).only hon (fun b h e => Hg.out b h e), by simpa [byteVals] using ho', ?_, Hg1.out, ?_, ?_⟩
          · rw [Hw.out, Hd.out, linesGo, Hsp.out]; rfl
          · intro b h e
            rcases hg' with rfl | rfl
            · exact Hg.out b h e
            · cases e; have := ho.lt _ h; simp at this; omega
          · intro b h
            rcases hg' with rfl | rfl
            · exact Hg2.out b h
            · cases h; have := HB.out.size; simp; omega
          · exact (HB.out.alloc HB.out.size _).trans (hon.below (by have := HB.out.size; simp; omega) (fun k hk e => by have := Hg2.out k e; omega))
        case measure => simp [intOf]; omega
      | true =>
        rw [hsp] at n10
        have Hsp := Lib.hid hsp
        clear hsp hconv
        have fin : ∀ (ao' : Option Addr) (cap' : Nat) (g' : Option Nat) (w1 : World) (ob : Obj), Own w1 ao' cap' g' 9 1 (O.length + 1) (strCells O ++ [.string (bs W)]) → (g' = g ∨ g' = some (wr.alloc ob).heap.size) → Only (fun k => g = some k) (wr.alloc ob) w1 →
            Hid (refLRel l w (Value.slice ao' (O.length + 1) cap') (Value.slice (some ⟨w1.heap.size, 0, none⟩) 0 0) (Value.int IntKind.i64 ((k : Int) + 1)) (w1.alloc (.cells #[] 5))) := fun ao' cap' g' w1 ob ho' hg' hon => by
          have hsz1 : w.heap.size ≤ wr.heap.size := HB.out.size
          have hsz2 := hon.size
          simp only [World.size_alloc] at hsz2
          refine ⟨k + 1, O ++ [W], [], ao', cap', g', _, _, some w1.heap.size, by omega, by go_num, by simp, rfl, ?_, by simp; omega, by simp, by simpa [strCells] using ho'.alloc _, Own.empty _ _ _, ?_, ?_, ?_, ?_⟩
          · rw [Hw.out, Hd.out, linesGo, Hsp.out]; simp
          · intro b h e; cases e; have := ho'.lt _ h; omega
          · intro b h
            rcases hg' with rfl | rfl
            · exact Hg1.out b h
            · cases h; simp; omega
          · intro b h; cases h; omega
          · exact ((HB.out.alloc hsz1 _).trans (hon.below (by simp; omega) (fun k hk e => by have := Hg1.out k e; omega))).alloc (by omega) _
        go_wp2_with (at_builtin; refine wpList_app rfl (.tmp 18) (.tmp 21) 39 39 rfl hE (ho.alloc _) rfl rfl (srcOne Try.underlying39 _ _ _ _ rfl) (by simp [maxLen]; omega) (by omega) ?_; intro ao' cap' g' w1 ho' hg' hon)
        go_roundw
        case rel => exact (fin ao' cap' g' w1 _ ho' hg' hon).out
        case measure => simp [intOf]; omega
    · obtain rfl : k = l.length := by omega
      have hwf : lines l = O ++ (if W = [] then [] else [W]) := by rw [Hw.out, List.drop_length, linesGo]
      clear hrd
      by_cases hW0 : W = []
      · subst hW0
        simp only [if_true, List.append_nil] at hwf
        have Hwf := Lib.hid hwf
        clear hwf hconv hconv0
        go_wp2_with fail
        go_ret
        exact ⟨ao, cap, g, by rw [Hwf.out]; rfl, by rw [Hwf.out]; exact ho, Hg1.out, HB.out⟩
      · rw [if_neg hW0] at hwf
        have hWp : 0 < W.length := List.length_pos_iff.2 hW0
        have Hwf := Lib.hid hwf
        clear hwf hconv hW0
        go_wp2_with (at_builtin; refine wpList_app rfl (.tmp 35) (.tmp 38) 39 39 rfl hE (ho.alloc _) rfl rfl (srcOne Try.underlying39 _ _ _ _ rfl) (by simp [maxLen]; omega) (by omega) ?_; intro ao' cap' g' w1 ho' hg' hon)
        go_ret
        have hsz1 : w.heap.size ≤ wr.heap.size := HB.out.size
        refine ⟨ao', cap', g', by rw [Hwf.out]; simp, by rw [Hwf.out]; simpa [strCells] using ho', ?_, (HB.out.alloc hsz1 _).trans (hon.below (by simp; omega) (fun k hk e => by have := Hg1.out k e; omega))⟩
        intro b h
        rcases hg' with rfl | rfl
        · exact Hg1.out b h
        · cases h; simp; omega
end Go.Proofs.Ytmflopeedofkhaa

namespace Go.Proofs.Ytmflopeedofkhaa
set_option linter.unusedSimpArgs false
set_option linter.unusedVariables false
set_option maxRecDepth 100000
open Go.RowKit

def numFrom : Nat → List (List UInt8) → List (Nat × List UInt8)
  | _, [] => []
  | n, x :: r => (n, x) :: numFrom (n + 1) r
theorem numFrom_length : ∀ (n : Nat) (l : List (List UInt8)), (numFrom n l).length = l.length
  | _, [] => rfl
  | n, x :: r => by simp [numFrom, numFrom_length (n + 1) r]
theorem numFrom_get : ∀ (n : Nat) (l : List (List UInt8)) (i : Nat), (numFrom n l)[i]? = (l[i]?).map fun x => (n + i, x)
  | n, [], i => by simp [numFrom]
  | n, x :: r, 0 => by simp [numFrom]
  | n, x :: r, i + 1 => by rw [numFrom, List.getElem?_cons_succ, List.getElem?_cons_succ, numFrom_get (n + 1) r i]; congr 1; funext y; congr 1; omega

def lineEnc (x : Nat × List UInt8) : Array Value := #[.int .i64 x.1, .string (bs x.2)]
/-- what the iterator reads: its box, the bytes' block -/
def lineRs (b : Nat) (ao : Option Addr) (n : Nat) (k : Nat) : Prop := k = b ∨ (0 < n ∧ ∃ off, ao = some ⟨k, off, none⟩)

def linesRel (l : List UInt8) (J : List (Nat × List UInt8) → (Nat → Prop) → World → Prop) (fp : Nat → Prop) (W : World) (from_ n : Value) (wr : World) : Prop :=
  ∃ (pre : List (Nat × List UInt8)) (fp1 : Nat → Prop) (k m : Nat), from_ = .int .i64 k ∧ n = .int .i64 m ∧ k ≤ l.length ∧ m ≤ k ∧ numFrom 1 (lines l) = pre ++ numFrom (m + 1) (lines (l.drop k)) ∧ J pre fp1 wr ∧
    Fwd (fun k => fp k ∨ False) fp1 W wr ∧ (∀ k, fp1 k → fp k ∨ W.heap.size ≤ k)

def lineIn (l : List UInt8) (k : Nat) (w : World) (i : Value) (wr : World) : Prop :=
  ∃ j : Nat, i = .int .i64 j ∧ k + j ≤ l.length ∧ (∀ d ∈ (l.drop k).take j, (d == 10) = false) ∧ wr = w
/-- '[]byte' from a place on, as a text -/
theorem conv_at {w : World} {bb o n : Nat} {l : List UInt8} (h : ∀ j, j < l.length → w.cell? ⟨bb, o + j, none⟩ = (byteVals l)[j]?) (hn : l.length = n) (cap : Nat) :
    (convert 22 9 (.slice (some ⟨bb, o, none⟩) n cap)).run Try.prog w = .ok (.string (bs l)) w := by
  subst hn
  exact run_string_of Try.underlying22 Try.underlying5 Try.underlying9 (.inr ⟨bb, o, rfl, fun j u hu => by rw [h j (by have := (List.getElem?_eq_some_iff.1 hu).1; simpa [byteVals] using this), hu]⟩)

attribute [local go_sem] Oper.semAt_some

set_option maxRecDepth 100000 in
set_option maxHeartbeats 1600000 in
theorem lines_iter (b : Nat) (l : List UInt8) (ao : Option Addr) (cap : Nat) (hl : l.length ≤ 1073741824) (hcap : l.length ≤ cap) (hcm : cap ≤ maxLen) :
    IterR Try.prog 45 #[.pointer (some ⟨b, 0, none⟩)] lineEnc (fun pre => pre <+: numFrom 1 (lines l)) (fun xs => xs = numFrom 1 (lines l)) (fun _ => True) (fun _ _ _ => True)
      (fun W => W.cell? ⟨b, 0, none⟩ = some (.slice ao l.length cap) ∧ Rd W ao l.length (byteVals l)) (lineRs b ao l.length) (fun _ => False) := by
  rintro ly J Jx fp W ⟨hc, hrd⟩ hfp hJ hJx _ hY h0
  have hb : b < W.heap.size := World.block_lt_of_cell? W _ hc
  have HJ := Lib.hid hJ
  have HJx := Lib.hid hJx
  have HY := Lib.hid hY
  have H0 : Hid (linesRel l J fp W (.int .i64 0) (.int .i64 0) W) := ⟨[], fp, 0, 0, rfl, rfl, by omega, by omega, by simp, h0, (Fwd.refl (fun k hk => (hfp k hk).1)).wider (fun k hk => .inl hk), fun k hk => .inl hk⟩
  have Hfp := Lib.hid hfp
  have Hc := Lib.hid hc
  have Hrd := Lib.hid hrd
  clear hJ hJx hY h0 hfp hc hrd
  refine callsIn_of_wp Try.func45 rfl trivial ?_
  simp only [Try.ntmps45, List.size_toArray, List.length_cons, List.length_nil, Nat.reduceAdd, Nat.reduceSub, Array.replicate_succ, Array.replicate_zero, List.push_toArray, List.append_toArray, List.nil_append, List.cons_append]
  refine wpIn_wide.2 (wp_scope_straight ((wpIn_wide (n := 0)).1 ?_))
  gi_wp2_with fail
  refine wpIn_label ?_
  gi_wp2_with fail
  gi_loopw [3, 4, 5, 6] (fun f n _ _ wr => linesRel l J fp W f n wr) (fun f _ _ _ _ => l.length - (intOf f).toNat)
  case atStart => exact H0.out
  case round =>
    obtain ⟨pre, fp1, k, m, rfl, rfl, hk, hmk, hw, hj, hfw, hfo⟩ := hrel
    have hc : wr.cell? ⟨b, 0, none⟩ = some (.slice ao l.length cap) := (hfw.only.cell hb (fun h => h.elim (fun h => (Hfp.out b h).2 (.inl rfl)) id) 0).trans Hc.out
    have hrd := Hrd.out.only hfw.only (fun h0 k off e h => h.elim (fun h => (Hfp.out k h).2 (.inr ⟨h0, off, e⟩)) id)
    have Hw := Lib.hid hw
    have Hj := Lib.hid hj
    have Hfw := Lib.hid hfw
    have Hfo := Lib.hid hfo
    clear hw hj hfw hfo
    by_cases hlt : k < l.length
    · obtain ⟨bb, off, rfl, hbb, hcells⟩ := hrd.pos (by omega)
      have hcapk : ¬ cap = k := by omega
      have hk1 : (k : Int) ≤ l.length := by omega
      have hk2 : (l.length : Int) ≤ cap := by omega
      clear hrd
      have Hcells := Lib.hid hcells
      clear hcells
      gi_wp2_with fail
      gi_loopw [3, 5, 6, 17] (fun f _ _ i wr' => f = .int .i64 k ∧ lineIn l k wr i wr') (fun _ _ _ i _ => l.length - k - (intOf i).toNat)
      case atStart => exact ⟨rfl, 0, rfl, by omega, fun d hd => by simp at hd, rfl⟩
      case round =>
        obtain ⟨rfl, j, rfl, hj, hno, rfl⟩ := hrel
        have Hno := Lib.hid hno
        clear hno
        by_cases hjl : k + j < l.length
        · have hcell := Hcells.out (k + j) hjl
          simp only [byteVals, List.getElem?_map, List.getElem?_eq_getElem hjl, Option.map_some] at hcell
          rw [← Nat.add_assoc] at hcell
          have hdr : l.drop k = (l.drop k).take j ++ l[k + j] :: l.drop (k + j + 1) := by
            have h1 : j < (l.drop k).length := by simp; omega
            have h2 := List.drop_eq_getElem_cons h1
            have h3 : (l.drop k).drop (j + 1) = l.drop (k + j + 1) := by rw [List.drop_drop]; congr 1
            rw [List.getElem_drop, h3] at h2
            rw [← h2, List.take_append_drop]
          have htk : (l.drop k).take (j + 1) = (l.drop k).take j ++ [l[k + j]] := by
            have h1 : j < (l.drop k).length := by simp; omega
            rw [take_next _ j h1, List.getElem_drop]
          have hir : (j : Int) < ((l.length - k : Nat) : Int) := by omega
          generalize l[k + j] = c at hcell hdr htk
          have n10 := neB c 10 10 rfl
          cases hsp : c == 10 with
          | false =>
            rw [hsp] at n10
            simp only [Bool.not_false] at n10
            have Htk := Lib.hid htk
            have Hsp := Lib.hid hsp
            clear hdr htk hsp
            gi_wp2_with fail
            go_roundw
            case rel =>
              refine ⟨rfl, j + 1, by go_num, by omega, fun d hd => ?_, rfl⟩
              rw [Htk.out, List.mem_append] at hd
              rcases hd with hd | hd
              · exact Hno.out d hd
              · rw [List.mem_singleton.1 hd]; exact Hsp.out
            case measure => simp [intOf]; omega
          | true =>
            rw [hsp] at n10
            simp only [Bool.not_true] at n10
            have hc10 : c = 10 := by simpa using hsp
            subst hc10
            obtain ⟨p, hp⟩ : ∃ p, (l.drop k).take j = p := ⟨_, rfl⟩
            have hpl : p.length = j := by rw [← hp]; simp; omega
            have hcv := conv_at (bb := bb) (o := off + k) (n := j) (l := p) (w := wr) (fun i hi => by
              have h1 := Hcells.out (k + i) (by omega)
              rw [← Nat.add_assoc] at h1
              rw [h1, ← hp]
              simp only [byteVals, List.map_take, List.map_drop, List.getElem?_take, List.getElem?_drop]
              rw [if_pos (by omega)]) hpl (cap - k)
            have hw2 : numFrom 1 (lines l) = (pre ++ [(m + 1, p)]) ++ numFrom (m + 1 + 1) (lines (l.drop (k + j + 1))) := by
              rw [Hw.out, hdr, hp, lines_cut p _ (by rw [← hp]; exact Hno.out), numFrom]; simp
            obtain ⟨fn, tmps, assign, body, hy, hR⟩ := HY.out pre fp1 (m + 1, p) wr Hj.out (fun k hk => (Hfw.out.own k hk).2) Hfw.out.only (by rw [hw2]; exact List.prefix_append _ _) trivial
            simp only [lineEnc] at hy
            rw [show ((m + 1 : Nat) : Int) = (m : Int) + 1 from rfl] at hy
            have HR := Lib.hid hR
            have Hw2 := Lib.hid hw2
            clear hR hw2 hdr htk hp hsp
            gi_wp2_with fail
            refine HR.out.mono ?_
            clear hy HR
            rintro e W2 ⟨fp2, hfw2, (⟨rfl, hj2⟩ | ⟨rfl, hjx2⟩)⟩
            · have Hj2 := Lib.hid hj2
              have Hfw2 := Lib.hid hfw2
              clear hj2 hfw2
              gi_wp2_with fail
              go_roundw
              case rel =>
                exact ⟨pre ++ [(m + 1, p)], fp2, k + j + 1, m + 1, by go_num, by go_num, by omega, by omega, Hw2.out, Hj2.out, Hfw.out.trans Hfw2.out,
                  fun k hk => ((Hfw2.out.own k hk).1).elim (Hfo.out k) (fun h => .inr (Nat.le_trans Hfw.out.only.size h))⟩
              case measure => simp [intOf]; omega
            · have Hjx2 := Lib.hid hjx2
              have Hfw2 := Lib.hid hfw2
              clear hjx2 hfw2
              gi_wp2_with fail
              rw [Exit.noGoto_ret]
              refine bodyPost_ret (results_none rfl _ _ _) rfl ?_
              exact ⟨⟨_, rfl⟩, pre ++ [(m + 1, p)], fp2, Hfw.out.trans Hfw2.out, (fun k hk => ((Hfw2.out.own k hk).1).elim (Hfo.out k) (fun h => .inr (Nat.le_trans Hfw.out.only.size h))), .inr ⟨by rw [Hw2.out]; exact List.prefix_append _ _, Hjx2.out⟩⟩
        · obtain ⟨p, hp⟩ : ∃ p, l.drop k = p := ⟨_, rfl⟩
          have hpl : p.length = l.length - k := by rw [← hp]; simp
          have hjk : j = l.length - k := by omega
          have hcv := conv_at (bb := bb) (o := off + k) (n := l.length - k) (l := p) (w := wr) (fun i hi => by
            have h1 := Hcells.out (k + i) (by omega)
            rw [← Nat.add_assoc] at h1
            rw [h1, ← hp]
            simp only [byteVals, List.map_drop, List.getElem?_drop]) hpl (cap - k)
          have hno2 : ∀ d ∈ p, (d == 10) = false := by
            have h := Hno.out
            rw [hp, List.take_of_length_le (by omega)] at h
            exact h
          have hpn : p ≠ [] := by intro e; rw [e] at hpl; simp at hpl; omega
          have hw2 : numFrom 1 (lines l) = pre ++ [(m + 1, p)] := by
            rw [Hw.out, hp, lines_last p hno2, if_neg hpn]; rfl
          obtain ⟨fn, tmps, assign, body, hy, hR⟩ := HY.out pre fp1 (m + 1, p) wr Hj.out (fun k hk => (Hfw.out.own k hk).2) Hfw.out.only (by rw [hw2]; exact List.prefix_refl _) trivial
          simp only [lineEnc] at hy
          rw [show ((m + 1 : Nat) : Int) = (m : Int) + 1 from rfl] at hy
          have HR := Lib.hid hR
          have Hw2 := Lib.hid hw2
          have hir : ¬ (j : Int) < ((l.length - k : Nat) : Int) := by omega
          clear hR hw2 hno2 hp hpl
          gi_wp2_with fail
          refine HR.out.mono ?_
          clear hy HR
          rintro e W2 ⟨fp2, hfw2, (⟨rfl, hj2⟩ | ⟨rfl, hjx2⟩)⟩
          · have Hj2 := Lib.hid hj2
            have Hfw2 := Lib.hid hfw2
            clear hj2 hfw2
            gi_wp2_with fail
            rw [Exit.noGoto_normal]
            go_end0
            exact ⟨⟨_, rfl⟩, pre ++ [(m + 1, p)], fp2, Hfw.out.trans Hfw2.out, (fun k hk => ((Hfw2.out.own k hk).1).elim (Hfo.out k) (fun h => .inr (Nat.le_trans Hfw.out.only.size h))), .inl ⟨Hw2.out.symm, Hj2.out⟩⟩
          · have Hjx2 := Lib.hid hjx2
            have Hfw2 := Lib.hid hfw2
            clear hjx2 hfw2
            gi_wp2_with fail
            rw [Exit.noGoto_normal]
            go_end0
            exact ⟨⟨_, rfl⟩, pre ++ [(m + 1, p)], fp2, Hfw.out.trans Hfw2.out, (fun k hk => ((Hfw2.out.own k hk).1).elim (Hfo.out k) (fun h => .inr (Nat.le_trans Hfw.out.only.size h))), .inr ⟨by rw [Hw2.out]; exact List.prefix_refl _, Hjx2.out⟩⟩
    · obtain rfl : k = l.length := by omega
      gi_wp2_with fail
      rw [Exit.noGoto_normal]
      go_end0
      exact ⟨⟨_, rfl⟩, pre, fp1, Hfw.out, Hfo.out, .inl ⟨by rw [Hw.out, List.drop_length]; simp [lines, linesGo, numFrom], Hj.out⟩⟩

set_option maxHeartbeats 400000 in
theorem lines_any (ao : Option Addr) (n cap : Nat) (w : World) :
    Calls Try.prog 20 #[.slice ao n cap] w fun e w' => e = .returned (.func (.func 45) #[] #[.pointer (some ⟨w.heap.size, 0, none⟩)]) ∧ w' = w.alloc (.cells #[.slice ao n cap] 22) := by
  have hmf : ∀ (fn : Fn) (first cap : Array Value) (w : World), (Instr.makeFunc fn first cap).run Try.prog w = .ok (.func fn first cap) w := fun _ _ _ _ => rfl
  go_enter Try.func20, Try.ntmps20
  go_wp2
  go_ret
  exact ⟨rfl, rfl⟩
end Go.Proofs.Ytmflopeedofkhaa

namespace Go.Proofs.Ytmflopeedofkhaa
set_option linter.unusedSimpArgs false
set_option linter.unusedVariables false
set_option maxRecDepth 100000
open Go.RowKit
attribute [local go_sem] Oper.semAt_some

theorem pre_next {ls : List (List UInt8)} {pre : List (Nat × List UInt8)} {x : Nat × List UInt8} (h : pre ++ [x] <+: numFrom 1 ls) : ∃ y, x = (pre.length + 1, y) ∧ ls[pre.length]? = some y ∧ pre.length < ls.length := by
  obtain ⟨r, hr⟩ := h
  have h1 : (numFrom 1 ls)[pre.length]? = some x := by rw [← hr]; simp
  rw [numFrom_get] at h1
  cases h2 : ls[pre.length]? with
  | none => rw [h2] at h1; cases h1
  | some y =>
    rw [h2] at h1
    simp only [Option.map_some, Option.some.injEq] at h1
    exact ⟨y, by rw [← h1, Nat.add_comm], rfl, (List.getElem?_eq_some_iff.1 h2).1⟩

theorem leaveM0 {P : Program} {fn : Func} {tmps : Array Value} {R : Ending → World → Prop} {W : World} {v : Value} (hr : (results fn tmps).run P W = .ok v W) (hR : R (.returned v) W) :
    bodyPostM Fence.wide 0 P fn R .ret { tmps := tmps, defers := [] } W := ⟨v, hr, hR⟩

end Go.Proofs.Ytmflopeedofkhaa
