/- Texts in memory: their bytes, slices of bytes, slices that are only read. No program in sight. -/
import Derived.Test.YtggcmnjllkncaaaSl
import Derived.Laws.Strings3
import Derived.Lib.ConvBytes
namespace Go.Proofs.Ytggcmnjllkncaaa
set_option linter.unusedSimpArgs false
set_option linter.unusedVariables false
set_option maxRecDepth 100000
open Go.RowKit

/-- a text out of its bytes -/
def bs (l : List UInt8) : ByteArray := ⟨l.toArray⟩
theorem bs_data (l : List UInt8) : (bs l).data.toList = l := by simp [bs]
theorem bs_of (s : ByteArray) : bs s.data.toList = s := by cases s; simp [bs]
theorem bs_size (l : List UInt8) : (bs l).size = l.length := by simp [bs, ByteArray.size]
theorem bs_extract (s : ByteArray) (a b : Nat) : s.extract a b = bs ((s.data.toList.drop a).take (b - a)) := by
  have h : (s.extract a b).data.toList = (s.data.toList.drop a).take (b - a) := by
    rw [ByteArray.data_extract, Array.toList_extract, List.extract_eq_take_drop]
  rw [← h, bs_of]

theorem bs_ne {l : List UInt8} (h : l ≠ []) : (bs l).toList.isEmpty = false := by
  rw [ByteArray.toList_eq, bs_data]
  cases l with
  | nil => exact absurd rfl h
  | cons c l => rfl
def byteVals (l : List UInt8) : List Value := l.map fun c => Value.int .u8 c.toNat
def strCells (l : List (List UInt8)) : List Value := l.map fun x => Value.string (bs x)
theorem Own.empty (w : World) (e : TypeId) (size : Nat) : Own (w.alloc (.cells #[] e)) (some ⟨w.heap.size, 0, none⟩) 0 (some w.heap.size) e size 0 [] :=
  ⟨by simp, .inr ⟨w.heap.size, #[], rfl, rfl, heap_alloc_new w _, Nat.le_refl _, by simp [maxLen], by simp, by simp⟩⟩

theorem Own.emptyAt (w : World) (e : TypeId) (size n : Nat) (hn : n = w.heap.size) : Own (w.alloc (.cells #[] e)) (some ⟨n, 0, none⟩) 0 (some n) e size 0 [] := by
  subst hn; exact Own.empty w e size
theorem foldl_bytes : ∀ (W : List UInt8) (s : ByteArray), (W.map fun c => (c.toNat : Int)).foldl (fun r n => r.push (UInt8.ofNat n.toNat)) s = bs (s.data.toList ++ W)
  | [], s => by simp [bs_of]
  | c :: W, s => by
    rw [List.map_cons, List.foldl_cons, foldl_bytes W]
    congr 1
    simp
/-- 'string(b)' of bytes that lie in memory -/
theorem run_string_of {P : Program} {w : World} {src dst e : TypeId} (hs : P.underlying src = some (.slice e)) (he : P.underlying e = some (.int .u8)) (hd : P.underlying dst = some .string)
    {ao : Option Addr} {cap : Nat} {W : List UInt8} (h : (ao = none ∧ W = []) ∨ ∃ b off, ao = some ⟨b, off, none⟩ ∧ ∀ j u, (byteVals W)[j]? = some u → w.cell? ⟨b, off + j, none⟩ = some u) :
    (convert src dst (.slice ao W.length cap)).run P w = .ok (.string (bs W)) w := by
  rw [run_convert_bytes_string w src dst e ao _ _ hs he hd]
  rcases h with ⟨rfl, rfl⟩ | ⟨b, off, rfl, hc⟩
  · rfl
  · have h1 := run_firstCells_some (P := P) w 1 W.length ⟨b, off, none⟩ W.length cap (byteVals W) (by simp [byteVals]) (fun j u hu => by rw [Addr.add_lit]; exact hc j u hu)
    have h2 : (loadCells ⟨b, off, none⟩ W.length).run P w = .ok ((W.map fun c => (c.toNat : Int)).map (Value.int .u8)).toArray w := by
      have := h1
      simp only [Builtin.firstCells, Nat.mul_one] at this
      rw [this]
      simp [byteVals, Function.comp_def]
    rw [run_bytesToString w _ _ _ _ h2, foldl_bytes]
    rfl
theorem run_string_own {P : Program} {w : World} {src dst e : TypeId} (hs : P.underlying src = some (.slice e)) (he : P.underlying e = some (.int .u8)) (hd : P.underlying dst = some .string)
    {ao : Option Addr} {cap : Nat} {g : Option Nat} {W : List UInt8} (h : Own w ao cap g e 1 W.length (byteVals W)) :
    (convert src dst (.slice ao W.length cap)).run P w = .ok (.string (bs W)) w := by
  refine run_string_of hs he hd ?_
  rcases h.addr with ⟨h1, _, h2, _⟩ | ⟨b, _, h1, _⟩
  · exact .inl ⟨h1, List.eq_nil_of_length_eq_zero h2⟩
  · refine .inr ⟨b, 0, h1, fun j u hu => ?_⟩
    subst h1
    have hj : j < W.length := by have := (List.getElem?_eq_some_iff.1 hu).1; simpa [byteVals] using this
    rw [Nat.zero_add, h.cell j (by omega), hu]
theorem bs_get (l : List UInt8) (k : Nat) (h : k < (bs l).size) : (bs l)[k] = l[k]'(by rw [bs_size] at h; exact h) := by
  show (bs l).data[k] = _
  simp [bs]

theorem neB (c d : UInt8) (n : Int) (hn : (d.toNat : Int) = n) : ((c.toNat : Int) != n) = !(c == d) := by
  subst hn
  rw [Bool.eq_iff_iff]
  simp [← UInt8.toNat_inj]
  omega
theorem eqB (c d : UInt8) (n : Int) (hn : (d.toNat : Int) = n) : ((c.toNat : Int) == n) = (c == d) := by
  subst hn
  rw [Bool.eq_iff_iff]
  simp [← UInt8.toNat_inj]
  omega

/-- 'the slice value .slice ao n _ reads as the cells xs (one cell each)' -/
def Rd (w : World) (ao : Option Addr) (n : Nat) (xs : List Value) : Prop :=
  xs.length = n ∧ (n = 0 ∨ ∃ b off, ao = some ⟨b, off, none⟩ ∧ b < w.heap.size ∧ ∀ j, j < n → w.cell? ⟨b, off + j, none⟩ = xs[j]?)
theorem Rd.ext {w w' : World} {ao : Option Addr} {n : Nat} {xs : List Value} (h : Rd w ao n xs) (hB : Below w.heap.size w w') : Rd w' ao n xs := by
  refine ⟨h.1, ?_⟩
  rcases h.2 with h2 | ⟨b, off, h1, h2, h3⟩
  · exact .inl h2
  · exact .inr ⟨b, off, h1, Nat.lt_of_lt_of_le h2 hB.size, fun j hj => (hB.cell (p := ⟨b, off + j, none⟩) h2).trans (h3 j hj)⟩
theorem Own.rd {w : World} {ao : Option Addr} {cap : Nat} {g : Option Nat} {e : TypeId} {n : Nat} {xs : List Value} (h : Own w ao cap g e 1 n xs) : Rd w ao n xs := by
  refine ⟨by rw [h.1, Nat.mul_one], ?_⟩
  rcases h.addr with ⟨h1, _, h2, _⟩ | ⟨b, _, h1, h2⟩
  · exact .inl h2
  · subst h1
    exact .inr ⟨b, 0, rfl, h2, fun j hj => by rw [Nat.zero_add]; exact h.cell j (by omega)⟩
theorem Rd.pos {w : World} {ao : Option Addr} {n : Nat} {xs : List Value} (h : Rd w ao n xs) (hn : 0 < n) : ∃ b off, ao = some ⟨b, off, none⟩ ∧ b < w.heap.size ∧ ∀ j, j < n → w.cell? ⟨b, off + j, none⟩ = xs[j]? := by
  rcases h.2 with h2 | h2
  · omega
  · exact h2

theorem bs_inj {x y : List UInt8} (h : bs x = bs y) : x = y := by rw [← bs_data x, h, bs_data]
theorem bs_toList (x : List UInt8) : (bs x).toList = x := by rw [ByteArray.toList_eq, bs_data]
theorem Rd.src {P : Program} {w : World} {ao : Option Addr} {n : Nat} {xs : List Value} {tx e' : TypeId} (h : Rd w ao n xs) (hk : P.underlying tx = some (.slice e')) (cap : Nat) (h1 : ∀ u ∈ xs, u.oneCell' = true) :
    Src P 1 tx (.slice ao n cap) n xs w := by
  obtain ⟨hl, rfl | ⟨b, off, rfl, hb, hc⟩⟩ := h
  · obtain rfl := List.eq_nil_of_length_eq_zero hl
    cases ao with
    | none => exact Src.ofNil _ hk cap
    | some a => exact Src.ofSlice w hk a 0 cap [] rfl (fun j u hu => by simp at hu) h1
  · refine Src.ofSlice w hk ⟨b, off, none⟩ n cap xs (by omega) (fun j u hu => ?_) h1
    rw [Addr.add_lit, hc j (by have := (List.getElem?_eq_some_iff.1 hu).1; omega), hu]
theorem byteVals_one (l : List UInt8) : ∀ u ∈ byteVals l, u.oneCell' = true := by
  intro u hu
  simp only [byteVals, List.mem_map] at hu
  obtain ⟨x, _, rfl⟩ := hu
  rfl
theorem take_next {α : Type} (l : List α) (k : Nat) (h : k < l.length) : l.take (k + 1) = l.take k ++ [l[k]] := by
  rw [List.take_add_one, List.getElem?_eq_getElem h]; rfl
theorem bytesWorld_below (w : World) (e : TypeId) (s : ByteArray) : Below w.heap.size w (Lib.bytesWorld w e s) where
  size := by rw [Lib.bytesWorld_size]; omega
  block := fun b hb => Lib.bytesWorld_at_old w e s b hb
  os := rfl
  tape := rfl
  output := rfl
end Go.Proofs.Ytggcmnjllkncaaa
