/- What package text takes of Go's library: IndexByte, Mul64 by ten, Add64. -/
import Derived.Test.YtafbjkbdfdeacaaBytes
import Derived.Test.YtafbjkbdfdeacaaTextPlain
import Derived.Test.YtafbjkbdfdeacaaProg
import Derived.Laws.Externs
import Derived.Laws.Strings3
namespace Go.Proofs.Ytafbjkbdfdeacaa
set_option linter.unusedSimpArgs false
set_option linter.unusedVariables false
open Go.RowKit

theorem size_toList (s : ByteArray) : s.data.toList.length = s.size := by rw [Array.length_toList]; rfl
theorem getBang (s : ByteArray) (i : Nat) (h : i < s.size) : s.data.toList[i]? = some s[i]! := by
  have h1 : i < s.data.size := h
  rw [Array.getElem?_toList, Array.getElem?_eq_getElem h1]
  rw [getElem!_pos s i h]
  rfl

/-- where a byte first stands in a text -/
theorem firstIdx_spec (s : ByteArray) (c : UInt8) :
    (firstIdx s c = -1 ∧ ∀ d ∈ s.data.toList, (d == c) = false) ∨
    ∃ i : Nat, firstIdx s c = i ∧ i < s.size ∧ s.data.toList[i]? = some c ∧ ∀ d ∈ s.data.toList.take i, (d == c) = false := by
  unfold firstIdx
  cases hf : (List.range s.size).find? fun i => s[i]! == c with
  | none =>
    left
    refine ⟨rfl, fun d hd => ?_⟩
    obtain ⟨i, hi, rfl⟩ := List.getElem_of_mem hd
    rw [List.find?_eq_none] at hf
    rw [size_toList] at hi
    have h1 := hf i (by simpa using hi)
    have h2 := getBang s i hi
    rw [List.getElem?_eq_getElem (by rw [size_toList]; exact hi)] at h2
    rw [Option.some.inj h2]
    simpa using h1
  | some i =>
    right
    rw [List.find?_range_eq_some] at hf
    obtain ⟨h1, h2, h3⟩ := hf
    have hi : i < s.size := by simpa using h2
    refine ⟨i, rfl, hi, ?_, ?_⟩
    · rw [getBang s i hi]; simpa using h1
    · intro d hd
      obtain ⟨j, hj, rfl⟩ := List.getElem_of_mem hd
      rw [List.length_take, size_toList] at hj
      have hji : j < i := by omega
      have h4 := h3 j hji
      have h5 := getBang s j (by omega)
      rw [List.getElem?_eq_getElem (by rw [size_toList]; omega)] at h5
      rw [List.getElem_take, Option.some.inj h5]
      simpa using h4

set_option maxHeartbeats 400000 in
theorem indexByteS_any (s : ByteArray) (c : Int) (w : World) :
    Calls Try.prog 71 #[.string s, .int .u8 c] w fun e w' => e = .returned (.int .i64 (firstIdx s c.toNat.toUInt8)) ∧ w = w' := by
  go_enter Try.func71, Try.ntmps71
  go_wp2
  rw [run_callFunc_extern Try.func72 (by kernel_rfl) (by kernel_rfl) (by kernel_rfl) (e := Extern.BytealgIndexByte.indexByte) (by kernel_rfl), run_indexByte_string]
  simp only [Result.andThen]
  rw [Oper.upon_value]
  go_wp2
  go_ret
  exact ⟨rfl, rfl⟩

set_option maxHeartbeats 400000 in
theorem indexByte_any (s : ByteArray) (c : Int) (w : World) :
    Calls Try.prog 68 #[.string s, .int .u8 c] w fun e w' => e = .returned (.int .i64 (firstIdx s c.toNat.toUInt8)) ∧ w = w' := by
  go_enter Try.func68, Try.ntmps68
  go_wp2_with (go_at_call 71; refine (indexByteS_any _ _ _).mono ?_; rintro e w' ⟨rfl, rfl⟩)
  go_ret
  exact ⟨rfl, rfl⟩

theorem mul10 (n : Nat) (hn : n < 18446744073709551616) : ∃ hi lo : Nat, n * 10 = hi * 18446744073709551616 + lo ∧ lo < 18446744073709551616 ∧ hi < 10 := ⟨n * 10 / 18446744073709551616, n * 10 % 18446744073709551616, by omega, by omega, by omega⟩

set_option maxHeartbeats 1000000 in
theorem mul64_any (x : Nat) (hx : x < 18446744073709551616) (w : World) :
    Calls Try.prog 69 #[.int .u64 x, .int .u64 10] w fun e w' => e = .returned (.tuple #[.int .u64 ((x * 10 / 18446744073709551616 : Nat) : Int), .int .u64 ((x * 10 % 18446744073709551616 : Nat) : Int)]) ∧ w = w' := by
  have mk : ∀ a : Nat, a < 18446744073709551616 → bits .and .u64 (a : Int) 4294967295 = (a : Int) % 4294967296 := fun a ha => by
    have h := bits_and_u64_nat a 4294967295 ha (by omega)
    have e : a &&& 4294967295 = a % 4294967296 := Nat.and_two_pow_sub_one_eq_mod a 32
    rw [e] at h
    rw [Int.natCast_emod] at h
    exact h
  have h1 := mk x hx
  have h2 : bits .and .u64 10 4294967295 = 10 := mk 10 (by omega)
  have h3 : bits .and .u64 ((x : Int) / 4294967296 * 10 + (x : Int) % 4294967296 * 10 / 4294967296) 4294967295 = ((x : Int) / 4294967296 * 10 + (x : Int) % 4294967296 * 10 / 4294967296) % 4294967296 := by
    have h := mk (x / 4294967296 * 10 + x % 4294967296 * 10 / 4294967296) (by omega)
    simpa using h
  have hx' : (x : Int) < 18446744073709551616 := by omega
  clear mk
  go_enter Try.func69, Try.ntmps69
  go_wp2
  go_ret2
  refine ⟨?_, rfl⟩
  have ehi : ((x : Int) / 4294967296 * 10 + (x : Int) % 4294967296 * 10 / 4294967296) / 4294967296 + ((x : Int) / 4294967296 * 10 + (x : Int) % 4294967296 * 10 / 4294967296) % 4294967296 / 4294967296 = ((x * 10 / 18446744073709551616 : Nat) : Int) := by omega
  have elo : IntKind.u64.wrap ((x : Int) * 10) = ((x * 10 % 18446744073709551616 : Nat) : Int) := by rw [IntKind.wrap_u64]; omega
  rw [← ehi, ← elo]
  rfl

set_option maxHeartbeats 1000000 in
theorem add64_run (x y : Int) (hx : 0 ≤ x) (hy : 0 ≤ y) (w : World) :
    (callFunc 70 #[.int .u64 x, .int .u64 y, .int .u64 0]).run Try.prog w = .ok (.value (.tuple #[.int .u64 ((x + y) % 18446744073709551616), .int .u64 ((x + y) / 18446744073709551616)])) w := by
  rw [run_callFunc_extern Try.func70 (by kernel_rfl) (by kernel_rfl) (by kernel_rfl) (e := add64Entry) (by kernel_rfl), run_add64 x y 0 hx hy (by omega) (by omega)]
  simp [Result.andThen]
end Go.Proofs.Ytafbjkbdfdeacaa
