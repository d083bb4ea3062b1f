/- Texts merged into one: Bytes, Rep, KeyPlain, EdgeKey, MapW, MapFn, MapWalk. -/
import Derived.Test.YtmflopeedofkhaaByBase
import Derived.Laws.Strings3
import Derived.Lib.ConvBytes
import Derived.Deep.Slices
import Derived.Test.YtmflopeedofkhaaProg
import Derived.Test.YtmflopeedofkhaaChecked
import Derived.Handy
import Derived.Laws.Concat
import Derived.RegionIn
import Derived.Scope
import Derived.Laws.Externs
import Derived.Laws.IdiomRangeMap
import Derived.MapKept
namespace Go.Proofs.Ytmflopeedofkhaa
set_option linter.unusedSimpArgs false
set_option linter.unusedVariables false
set_option maxRecDepth 100000
open Go.RowKit

/-- a text out of its bytes -/
def bs (l : List UInt8) : ByteArray := ⟨l.toArray⟩
theorem bs_data (l : List UInt8) : (bs l).data.toList = l := by simp [bs]
theorem bs_of (s : ByteArray) : bs s.data.toList = s := by cases s; simp [bs]
theorem bs_size (l : List UInt8) : (bs l).size = l.length := by simp [bs, ByteArray.size]
theorem bs_extract (s : ByteArray) (a b : Nat) : s.extract a b = bs ((s.data.toList.drop a).take (b - a)) := by
  have h : (s.extract a b).data.toList = (s.data.toList.drop a).take (b - a) := by
    rw [ByteArray.data_extract, Array.toList_extract, List.extract_eq_take_drop]
  rw [← h, bs_of]

theorem bs_ne {l : List UInt8} (h : l ≠ []) : (bs l).toList.isEmpty = false := by
  rw [ByteArray.toList_eq, bs_data]
  cases l with
  | nil => exact absurd rfl h
  | cons c l => rfl
def byteVals (l : List UInt8) : List Value := l.map fun c => Value.int .u8 c.toNat
def strCells (l : List (List UInt8)) : List Value := l.map fun x => Value.string (bs x)
theorem Own.empty (w : World) (e : TypeId) (size : Nat) : Own (w.alloc (.cells #[] e)) (some ⟨w.heap.size, 0, none⟩) 0 (some w.heap.size) e size 0 [] :=
  ⟨by simp, .inr ⟨w.heap.size, #[], rfl, rfl, heap_alloc_new w _, Nat.le_refl _, by simp [maxLen], by simp, by simp⟩⟩

theorem Own.emptyAt (w : World) (e : TypeId) (size n : Nat) (hn : n = w.heap.size) : Own (w.alloc (.cells #[] e)) (some ⟨n, 0, none⟩) 0 (some n) e size 0 [] := by
  subst hn; exact Own.empty w e size
theorem foldl_bytes : ∀ (W : List UInt8) (s : ByteArray), (W.map fun c => (c.toNat : Int)).foldl (fun r n => r.push (UInt8.ofNat n.toNat)) s = bs (s.data.toList ++ W)
  | [], s => by simp [bs_of]
  | c :: W, s => by
    rw [List.map_cons, List.foldl_cons, foldl_bytes W]
    congr 1
    simp
/-- 'string(b)' of bytes that lie in memory -/
theorem run_string_of {P : Program} {w : World} {src dst e : TypeId} (hs : P.underlying src = some (.slice e)) (he : P.underlying e = some (.int .u8)) (hd : P.underlying dst = some .string)
    {ao : Option Addr} {cap : Nat} {W : List UInt8} (h : (ao = none ∧ W = []) ∨ ∃ b off, ao = some ⟨b, off, none⟩ ∧ ∀ j u, (byteVals W)[j]? = some u → w.cell? ⟨b, off + j, none⟩ = some u) :
    (convert src dst (.slice ao W.length cap)).run P w = .ok (.string (bs W)) w := by
  rw [run_convert_bytes_string w src dst e ao _ _ hs he hd]
  rcases h with ⟨rfl, rfl⟩ | ⟨b, off, rfl, hc⟩
  · rfl
  · have h1 := run_firstCells_some (P := P) w 1 W.length ⟨b, off, none⟩ W.length cap (byteVals W) (by simp [byteVals]) (fun j u hu => by rw [Addr.add_lit]; exact hc j u hu)
    have h2 : (loadCells ⟨b, off, none⟩ W.length).run P w = .ok ((W.map fun c => (c.toNat : Int)).map (Value.int .u8)).toArray w := by
      have := h1
      simp only [Builtin.firstCells, Nat.mul_one] at this
      rw [this]
      simp [byteVals, Function.comp_def]
    rw [run_bytesToString w _ _ _ _ h2, foldl_bytes]
    rfl
theorem run_string_own {P : Program} {w : World} {src dst e : TypeId} (hs : P.underlying src = some (.slice e)) (he : P.underlying e = some (.int .u8)) (hd : P.underlying dst = some .string)
    {ao : Option Addr} {cap : Nat} {g : Option Nat} {W : List UInt8} (h : Own w ao cap g e 1 W.length (byteVals W)) :
    (convert src dst (.slice ao W.length cap)).run P w = .ok (.string (bs W)) w := by
  refine run_string_of hs he hd ?_
  rcases h.addr with ⟨h1, _, h2, _⟩ | ⟨b, _, h1, _⟩
  · exact .inl ⟨h1, List.eq_nil_of_length_eq_zero h2⟩
  · refine .inr ⟨b, 0, h1, fun j u hu => ?_⟩
    subst h1
    have hj : j < W.length := by have := (List.getElem?_eq_some_iff.1 hu).1; simpa [byteVals] using this
    rw [Nat.zero_add, h.cell j (by omega), hu]
theorem bs_get (l : List UInt8) (k : Nat) (h : k < (bs l).size) : (bs l)[k] = l[k]'(by rw [bs_size] at h; exact h) := by
  show (bs l).data[k] = _
  simp [bs]

theorem neB (c d : UInt8) (n : Int) (hn : (d.toNat : Int) = n) : ((c.toNat : Int) != n) = !(c == d) := by
  subst hn
  rw [Bool.eq_iff_iff]
  simp [← UInt8.toNat_inj]
  omega
theorem eqB (c d : UInt8) (n : Int) (hn : (d.toNat : Int) = n) : ((c.toNat : Int) == n) = (c == d) := by
  subst hn
  rw [Bool.eq_iff_iff]
  simp [← UInt8.toNat_inj]
  omega

/-- 'the slice value .slice ao n _ reads as the cells xs (one cell each)' -/
def Rd (w : World) (ao : Option Addr) (n : Nat) (xs : List Value) : Prop :=
  xs.length = n ∧ (n = 0 ∨ ∃ b off, ao = some ⟨b, off, none⟩ ∧ b < w.heap.size ∧ ∀ j, j < n → w.cell? ⟨b, off + j, none⟩ = xs[j]?)
theorem Rd.ext {w w' : World} {ao : Option Addr} {n : Nat} {xs : List Value} (h : Rd w ao n xs) (hB : Below w.heap.size w w') : Rd w' ao n xs := by
  refine ⟨h.1, ?_⟩
  rcases h.2 with h2 | ⟨b, off, h1, h2, h3⟩
  · exact .inl h2
  · exact .inr ⟨b, off, h1, Nat.lt_of_lt_of_le h2 hB.size, fun j hj => (hB.cell (p := ⟨b, off + j, none⟩) h2).trans (h3 j hj)⟩
theorem Own.rd {w : World} {ao : Option Addr} {cap : Nat} {g : Option Nat} {e : TypeId} {n : Nat} {xs : List Value} (h : Own w ao cap g e 1 n xs) : Rd w ao n xs := by
  refine ⟨by rw [h.1, Nat.mul_one], ?_⟩
  rcases h.addr with ⟨h1, _, h2, _⟩ | ⟨b, _, h1, h2⟩
  · exact .inl h2
  · subst h1
    exact .inr ⟨b, 0, rfl, h2, fun j hj => by rw [Nat.zero_add]; exact h.cell j (by omega)⟩
theorem Rd.pos {w : World} {ao : Option Addr} {n : Nat} {xs : List Value} (h : Rd w ao n xs) (hn : 0 < n) : ∃ b off, ao = some ⟨b, off, none⟩ ∧ b < w.heap.size ∧ ∀ j, j < n → w.cell? ⟨b, off + j, none⟩ = xs[j]? := by
  rcases h.2 with h2 | h2
  · omega
  · exact h2

theorem bs_inj {x y : List UInt8} (h : bs x = bs y) : x = y := by rw [← bs_data x, h, bs_data]
theorem bs_toList (x : List UInt8) : (bs x).toList = x := by rw [ByteArray.toList_eq, bs_data]
theorem Rd.src {P : Program} {w : World} {ao : Option Addr} {n : Nat} {xs : List Value} {tx e' : TypeId} (h : Rd w ao n xs) (hk : P.underlying tx = some (.slice e')) (cap : Nat) (h1 : ∀ u ∈ xs, u.oneCell' = true) :
    Src P 1 tx (.slice ao n cap) n xs w := by
  obtain ⟨hl, rfl | ⟨b, off, rfl, hb, hc⟩⟩ := h
  · obtain rfl := List.eq_nil_of_length_eq_zero hl
    cases ao with
    | none => exact Src.ofNil _ hk cap
    | some a => exact Src.ofSlice w hk a 0 cap [] rfl (fun j u hu => by simp at hu) h1
  · refine Src.ofSlice w hk ⟨b, off, none⟩ n cap xs (by omega) (fun j u hu => ?_) h1
    rw [Addr.add_lit, hc j (by have := (List.getElem?_eq_some_iff.1 hu).1; omega), hu]
theorem byteVals_one (l : List UInt8) : ∀ u ∈ byteVals l, u.oneCell' = true := by
  intro u hu
  simp only [byteVals, List.mem_map] at hu
  obtain ⟨x, _, rfl⟩ := hu
  rfl
theorem take_next {α : Type} (l : List α) (k : Nat) (h : k < l.length) : l.take (k + 1) = l.take k ++ [l[k]] := by
  rw [List.take_add_one, List.getElem?_eq_getElem h]; rfl
theorem bytesWorld_below (w : World) (e : TypeId) (s : ByteArray) : Below w.heap.size w (Lib.bytesWorld w e s) where
  size := by rw [Lib.bytesWorld_size]; omega
  block := fun b hb => Lib.bytesWorld_at_old w e s b hb
  os := rfl
  tape := rfl
  output := rfl
end Go.Proofs.Ytmflopeedofkhaa

namespace Go.Proofs.Ytmflopeedofkhaa
set_option linter.unusedSimpArgs false
set_option linter.unusedVariables false
set_option maxRecDepth 100000
open Go.RowKit

/-- How a datum lies in cells: 'fp': the blocks behind it. -/
structure Rep (α : Type) where
  size : Nat
  ok : World → (Nat → Prop) → α → List Value → Prop
  len : ∀ {w fp x cs}, ok w fp x cs → cs.length = size
  keep : ∀ {w w' fp x cs}, ok w fp x cs → (∀ b, fp b → b < w.heap.size → w'.heap[b]? = w.heap[b]?) → w.heap.size ≤ w'.heap.size → ok w' fp x cs
  mono : ∀ {w fp fp' x cs}, ok w fp x cs → (∀ b, fp b → b < w.heap.size → fp' b) → ok w fp' x cs

section
variable {α β : Type}

/-- 'the slice at ao reads as l' -/
def RdS (R : Rep α) (fp : Nat → Prop) (w : World) (ao : Option Addr) (l : List α) : Prop :=
  l = [] ∨ ∃ b off, ao = some ⟨b, off, none⟩ ∧ fp b ∧ b < w.heap.size ∧
    ∀ j x, l[j]? = some x → ∃ cs, R.ok w fp x cs ∧ ∀ i, i < R.size → w.cell? ⟨b, off + j * R.size + i, none⟩ = cs[i]?

theorem RdS.keep {R : Rep α} {fp : Nat → Prop} {w w' : World} {ao : Option Addr} {l : List α} (h : RdS R fp w ao l) (hk : ∀ b, fp b → b < w.heap.size → w'.heap[b]? = w.heap[b]?) (hs : w.heap.size ≤ w'.heap.size) : RdS R fp w' ao l := by
  rcases h with h | ⟨b, off, h1, h2, h3, h4⟩
  · exact .inl h
  · refine .inr ⟨b, off, h1, h2, Nat.lt_of_lt_of_le h3 hs, fun j x hx => ?_⟩
    obtain ⟨cs, h5, h6⟩ := h4 j x hx
    exact ⟨cs, R.keep h5 hk hs, fun i hi => (World.cell?_of_block (w := w) (hk b h2 h3)).trans (h6 i hi)⟩
theorem RdS.mono {R : Rep α} {fp fp' : Nat → Prop} {w : World} {ao : Option Addr} {l : List α} (h : RdS R fp w ao l) (hm : ∀ b, fp b → b < w.heap.size → fp' b) : RdS R fp' w ao l := by
  rcases h with h | ⟨b, off, h1, h2, h3, h4⟩
  · exact .inl h
  · refine .inr ⟨b, off, h1, hm b h2 h3, h3, fun j x hx => ?_⟩
    obtain ⟨cs, h5, h6⟩ := h4 j x hx
    exact ⟨cs, R.mono h5 hm, h6⟩
theorem RdS.only {R : Rep α} {fp gp : Nat → Prop} {w w' : World} {ao : Option Addr} {l : List α} (h : RdS R fp w ao l) (ho : Only gp w w') (hn : ∀ b, fp b → b < w.heap.size → ¬ gp b) : RdS R fp w' ao l :=
  h.keep (fun b hb hl => ho.same b hl (hn b hb hl)) ho.size
theorem RdS.ext {R : Rep α} {fp : Nat → Prop} {w w' : World} {ao : Option Addr} {l : List α} (h : RdS R fp w ao l) (hB : Below w.heap.size w w') : RdS R fp w' ao l :=
  h.keep (fun b _ hl => hB.block b hl) hB.size
theorem RdS.stays {R : Rep α} {fp gp : Nat → Prop} {w w' : World} {ao : Option Addr} {l : List α} (h : RdS R fp w ao l) (hs : Stays gp w w') (hm : ∀ b, fp b → b < w.heap.size → gp b) : RdS R fp w' ao l :=
  h.keep (fun b hb hl => hs.same b (hm b hb hl)) hs.size
theorem RdS.below {R : Rep α} {fp : Nat → Prop} {w w' : World} {ao : Option Addr} {l : List α} {n : Nat} (h : RdS R fp w ao l) (hB : Below n w w') (hn : ∀ b, fp b → b < n) : RdS R fp w' ao l :=
  h.keep (fun b hb _ => hB.block b (hn b hb)) hB.size
theorem RdS.at {R : Rep α} {fp : Nat → Prop} {w : World} {ao : Option Addr} {l : List α} (h : RdS R fp w ao l) (j : Nat) (hj : j < l.length) :
    ∃ b off cs, ao = some ⟨b, off, none⟩ ∧ fp b ∧ b < w.heap.size ∧ R.ok w fp l[j] cs ∧ ∀ i, i < R.size → w.cell? ⟨b, off + j * R.size + i, none⟩ = cs[i]? := by
  rcases h with h | ⟨b, off, h1, h2, h3, h4⟩
  · subst h; simp at hj
  · obtain ⟨cs, h5, h6⟩ := h4 j l[j] (List.getElem?_eq_getElem hj)
    exact ⟨b, off, cs, h1, h2, h3, h5, h6⟩
theorem RdS.nil (R : Rep α) (fp : Nat → Prop) (w : World) (ao : Option Addr) : RdS R fp w ao [] := .inl rfl
theorem RdS.take {R : Rep α} {fp : Nat → Prop} {w : World} {ao : Option Addr} {l : List α} (h : RdS R fp w ao l) (k : Nat) : RdS R fp w ao (l.take k) := by
  rcases h with h | ⟨b, off, h1, h2, h3, h4⟩
  · subst h; exact .inl (by simp)
  · exact .inr ⟨b, off, h1, h2, h3, fun j x hx => h4 j x (by
      rw [List.getElem?_take] at hx
      split at hx
      · exact hx
      · cases hx)⟩
theorem RdS.drop {R : Rep α} {fp : Nat → Prop} {w : World} {b off : Nat} {l : List α} (h : RdS R fp w (some ⟨b, off, none⟩) l) (k : Nat) : RdS R fp w (some ⟨b, off + k * R.size, none⟩) (l.drop k) := by
  rcases h with h | ⟨b', off', h1, h2, h3, h4⟩
  · subst h; exact .inl (by simp)
  · cases h1
    refine .inr ⟨b, _, rfl, h2, h3, fun j x hx => ?_⟩
    rw [List.getElem?_drop] at hx
    obtain ⟨cs, h5, h6⟩ := h4 (k + j) x hx
    exact ⟨cs, h5, fun i hi => by rw [← h6 i hi]; congr 2; rw [Nat.add_mul]; omega⟩

/-! ### the kinds of data -/
def Rep.nat (k : IntKind) (bound : Nat) : Rep Nat where
  size := 1
  ok _ _ x cs := cs = [.int k x] ∧ x < bound
  len h := by rw [h.1]; rfl
  keep h _ _ := h
  mono h _ := h
def Rep.u8 : Rep UInt8 where
  size := 1
  ok _ _ x cs := cs = [.int .u8 x.toNat]
  len h := by rw [h]; rfl
  keep h _ _ := h
  mono h _ := h
def Rep.str : Rep (List UInt8) where
  size := 1
  ok _ _ x cs := cs = [.string (bs x)] ∧ x.length ≤ maxLen
  len h := by rw [h.1]; rfl
  keep h _ _ := h
  mono h _ := h
abbrev Rep.u32 : Rep Nat := Rep.nat .u32 4294967296
abbrev Rep.u64 : Rep Nat := Rep.nat .u64 18446744073709551616
def Rep.slice (R : Rep α) : Rep (List α) where
  size := 1
  ok w fp l cs := ∃ ao cap, cs = [.slice ao l.length cap] ∧ l.length ≤ cap ∧ cap ≤ maxLen ∧ RdS R fp w ao l
  len := by rintro w fp x cs ⟨ao, cap, rfl, _⟩; rfl
  keep := by rintro w w' fp x cs ⟨ao, cap, h, h1, h2, h3⟩ hk hs; exact ⟨ao, cap, h, h1, h2, h3.keep hk hs⟩
  mono := by rintro w fp fp' x cs ⟨ao, cap, h, h1, h2, h3⟩ hm; exact ⟨ao, cap, h, h1, h2, h3.mono hm⟩
def Rep.prod (R : Rep α) (S : Rep β) : Rep (α × β) where
  size := R.size + S.size
  ok w fp x cs := ∃ c d, cs = c ++ d ∧ R.ok w fp x.1 c ∧ S.ok w fp x.2 d
  len := by rintro w fp x cs ⟨c, d, rfl, h1, h2⟩; rw [List.length_append, R.len h1, S.len h2]
  keep := by rintro w w' fp x cs ⟨c, d, h, h1, h2⟩ hk hs; exact ⟨c, d, h, R.keep h1 hk hs, S.keep h2 hk hs⟩
  mono := by rintro w fp fp' x cs ⟨c, d, h, h1, h2⟩ hm; exact ⟨c, d, h, R.mono h1 hm, S.mono h2 hm⟩
def Rep.unit : Rep Unit where
  size := 0
  ok _ _ _ cs := cs = []
  len h := by rw [h]; rfl
  keep h _ _ := h
  mono h _ := h
def Rep.map (R : Rep α) (f : α → β) : Rep β where
  size := R.size
  ok w fp y cs := ∃ x, f x = y ∧ R.ok w fp x cs
  len := by rintro w fp x cs ⟨y, rfl, h⟩; exact R.len h
  keep := by rintro w w' fp x cs ⟨y, rfl, h⟩ hk hs; exact ⟨y, rfl, R.keep h hk hs⟩
  mono := by rintro w fp fp' x cs ⟨y, rfl, h⟩ hm; exact ⟨y, rfl, R.mono h hm⟩
end

/-- one relation, element by element -/
inductive All2 {α β : Type} (p : α → β → Prop) : List α → List β → Prop
  | nil : All2 p [] []
  | cons {a : α} {b : β} {l : List α} {m : List β} (h1 : p a b) (h2 : All2 p l m) : All2 p (a :: l) (b :: m)
/-! ### slices of whatever that a call owns -/
section
variable {α : Type} {R : Rep α} {fp : Nat → Prop} {w w' : World} {ao : Option Addr} {cap : Nat} {g : Option Nat} {e : TypeId} {l : List α}
/-- 'the slice is the call's own (block g) and reads as l; what lies behind its elements is in fp' -/
def OwnS (R : Rep α) (fp : Nat → Prop) (w : World) (ao : Option Addr) (cap : Nat) (g : Option Nat) (e : TypeId) (l : List α) : Prop :=
  ∃ css, Own w ao cap g e R.size l.length css.flatten ∧ All2 (fun x cs => R.ok w fp x cs) l css

theorem forall2_imp {α β : Type} {p q : α → β → Prop} (h : ∀ a b, p a b → q a b) : ∀ {l : List α} {m : List β}, All2 p l m → All2 q l m
  | _, _, .nil => .nil
  | _, _, .cons h1 h2 => .cons (h _ _ h1) (forall2_imp h h2)
theorem OwnS.nil (R : Rep α) (fp : Nat → Prop) (w : World) (e : TypeId) : OwnS R fp w none 0 none e [] := ⟨[], Own.nil w e R.size, .nil⟩
theorem OwnS.keep (h : OwnS R fp w ao cap g e l) (hk : ∀ b, (fp b ∨ g = some b) → b < w.heap.size → w'.heap[b]? = w.heap[b]?) (hs : w.heap.size ≤ w'.heap.size) : OwnS R fp w' ao cap g e l := by
  obtain ⟨css, h1, h2⟩ := h
  exact ⟨css, h1.keep (fun b hb => hk b (.inr hb) (h1.lt b hb)), forall2_imp (fun x cs h => R.keep h (fun b hb hl => hk b (.inl hb) hl) hs) h2⟩
theorem OwnS.mono {fp' : Nat → Prop} (h : OwnS R fp w ao cap g e l) (hm : ∀ b, fp b → b < w.heap.size → fp' b) : OwnS R fp' w ao cap g e l := by
  obtain ⟨css, h1, h2⟩ := h
  exact ⟨css, h1, forall2_imp (fun x cs h => R.mono h hm) h2⟩
theorem OwnS.only {gp : Nat → Prop} (h : OwnS R fp w ao cap g e l) (ho : Only gp w w') (hn : ∀ b, (fp b ∨ g = some b) → b < w.heap.size → ¬ gp b) : OwnS R fp w' ao cap g e l :=
  h.keep (fun b hb hl => ho.same b hl (hn b hb hl)) ho.size
theorem OwnS.stays {gp : Nat → Prop} (h : OwnS R fp w ao cap g e l) (hs : Stays gp w w') (hm : ∀ b, (fp b ∨ g = some b) → b < w.heap.size → gp b) : OwnS R fp w' ao cap g e l :=
  h.keep (fun b hb hl => hs.same b (hm b hb hl)) hs.size
theorem OwnS.ext (h : OwnS R fp w ao cap g e l) (hB : Below w.heap.size w w') : OwnS R fp w' ao cap g e l := h.keep (fun b _ hl => hB.block b hl) hB.size
theorem OwnS.lt (h : OwnS R fp w ao cap g e l) : ∀ b, g = some b → b < w.heap.size := by obtain ⟨css, h1, _⟩ := h; exact h1.lt
theorem OwnS.capLe (h : OwnS R fp w ao cap g e l) : l.length ≤ cap ∧ cap ≤ maxLen := by obtain ⟨css, h1, _⟩ := h; exact h1.capLe
theorem OwnS.own (h : OwnS R fp w ao cap g e l) : ∃ css, Own w ao cap g e R.size l.length css.flatten ∧ All2 (fun x cs => R.ok w fp x cs) l css := h
theorem OwnS.snoc {css : List (List Value)} (hf : All2 (fun x cs => R.ok w fp x cs) l css) {x : α} {cs : List Value} (hx : R.ok w' fp x cs) (ho : Own w' ao cap g e R.size (l.length + 1) (css.flatten ++ cs))
    (hk : ∀ b, fp b → b < w.heap.size → w'.heap[b]? = w.heap[b]?) (hs : w.heap.size ≤ w'.heap.size) : OwnS R fp w' ao cap g e (l ++ [x]) := by
  refine ⟨css ++ [cs], by simpa using ho, ?_⟩
  have h1 := forall2_imp (q := fun x cs => R.ok w' fp x cs) (fun x cs h => R.keep h hk hs) hf
  clear ho hf
  induction h1 with
  | nil => exact .cons hx .nil
  | cons a b ih => exact .cons a ih
theorem flatten_chunk (R : Rep α) (fp : Nat → Prop) (w : World) : ∀ {l : List α} {css : List (List Value)}, All2 (fun x cs => R.ok w fp x cs) l css → ∀ j x, l[j]? = some x → ∃ cs, R.ok w fp x cs ∧ ∀ i, i < R.size → css.flatten[j * R.size + i]? = cs[i]?
  | _, _, .nil, j, x, h => by simp at h
  | y :: l, d :: css, .cons h1 h2, 0, x, h => by
    simp only [List.getElem?_cons_zero, Option.some.injEq] at h
    subst h
    exact ⟨d, h1, fun i hi => by rw [List.flatten_cons, Nat.zero_mul, Nat.zero_add, List.getElem?_append_left (by rw [R.len h1]; exact hi)]⟩
  | y :: l, d :: css, .cons h1 h2, j + 1, x, h => by
    rw [List.getElem?_cons_succ] at h
    obtain ⟨cs, h3, h4⟩ := flatten_chunk R fp w h2 j x h
    refine ⟨cs, h3, fun i hi => ?_⟩
    rw [List.flatten_cons, List.getElem?_append_right (by rw [R.len h1, Nat.add_mul]; omega), R.len h1, show (j + 1) * R.size + i - R.size = j * R.size + i from by rw [Nat.add_mul]; omega]
    exact h4 i hi
/-- what is owned reads -/
theorem OwnS.rd (h : OwnS R fp w ao cap g e l) : RdS R (fun b => fp b ∨ g = some b) w ao l := by
  obtain ⟨css, h1, h2⟩ := h
  rcases h1.addr with ⟨_, _, h0, _⟩ | ⟨b, hg, ha, hb⟩
  · exact .inl (List.eq_nil_of_length_eq_zero h0)
  · subst ha
    refine .inr ⟨b, 0, rfl, .inr hg, hb, fun j x hx => ?_⟩
    obtain ⟨cs, h3, h4⟩ := flatten_chunk R fp w h2 j x hx
    refine ⟨cs, R.mono h3 (fun b hb _ => .inl hb), fun i hi => ?_⟩
    have hj := (List.getElem?_eq_some_iff.1 hx).1
    rw [Nat.zero_add, h1.cell _ (by
      have h5 : (j + 1) * R.size ≤ l.length * R.size := Nat.mul_le_mul_right _ hj
      rw [Nat.add_mul] at h5
      omega), h4 i hi]
end

/-- a new block that holds the elements' cells -/
theorem RdS.new {α : Type} {R : Rep α} {fp : Nat → Prop} {w : World} {l : List α} {css : List (List Value)} {cs : Array Value} {t : TypeId} (h : All2 (fun x cs => R.ok w fp x cs) l css) (hf : css.flatten = cs.toList) (n : Nat) (hn : n = w.heap.size) :
    RdS R (fun b => fp b ∨ b = n) (w.alloc (.cells cs t)) (some ⟨n, 0, none⟩) l := by
  subst hn
  refine .inr ⟨w.heap.size, 0, rfl, .inr rfl, by simp, fun j x hx => ?_⟩
  obtain ⟨cs', h3, h4⟩ := flatten_chunk R fp w h j x hx
  refine ⟨cs', R.mono (R.keep h3 (fun b _ hl => (ext_alloc w _).block b hl) (ext_alloc w _).size) (fun b hb _ => .inl hb), fun i hi => ?_⟩
  rw [Nat.zero_add, World.cell?_alloc_new, ← h4 i hi, hf]
  simp
theorem rdS_u8 {w : World} {ao : Option Addr} {cap : Nat} {g : Option Nat} {e : TypeId} {l : List UInt8} (h : Own w ao cap g e 1 l.length (byteVals l)) : RdS Rep.u8 (fun k => g = some k) w ao l := by
  rcases h.addr with ⟨_, _, h0, _⟩ | ⟨b, hg, ha, hb⟩
  · exact .inl (List.eq_nil_of_length_eq_zero h0)
  · subst ha
    refine .inr ⟨b, 0, rfl, hg, hb, fun j x hx => ⟨[.int .u8 x.toNat], rfl, fun i hi => ?_⟩⟩
    have hi0 : i = 0 := by simp [Rep.u8] at hi; exact hi
    subst hi0
    have hj := (List.getElem?_eq_some_iff.1 hx).1
    simp only [Rep.u8, Nat.mul_one, Nat.add_zero, Nat.zero_add]
    rw [h.cell j (by omega)]
    simp [byteVals, hx]
/-! ### an element is set anew -/
section
variable {α : Type} {R : Rep α} {fp : Nat → Prop} {w : World} {cap : Nat} {e : TypeId}
theorem setsAt_drop : ∀ (vs : List Value) (o : Nat) (cur : Array Value), o + vs.length ≤ cur.size → (setsAt cur o vs).toList = cur.toList.take o ++ vs ++ cur.toList.drop (o + vs.length)
  | [], o, cur, _ => by simp [setsAt]
  | v :: r, o, cur, h => by
    simp only [List.length_cons] at h ⊢
    have ih := setsAt_drop r (o + 1) (cur.setIfInBounds o v) (by simp; omega)
    rw [setsAt, ih, Array.toList_setIfInBounds]
    have ho : o < cur.toList.length := by simp; omega
    rw [List.take_succ_eq_append_getElem (by rw [List.length_set]; exact ho), List.take_set_of_le (Nat.le_refl _), List.drop_set_of_lt (by omega)]
    simp [Nat.add_assoc, Nat.add_comm 1]
theorem all2_append {α β : Type} {p : α → β → Prop} : ∀ {l l' : List α} {m m' : List β}, All2 p l m → All2 p l' m' → All2 p (l ++ l') (m ++ m')
  | _, _, _, _, .nil, h => h
  | _, _, _, _, .cons h1 h2, h => .cons h1 (all2_append h2 h)
theorem all2_snoc {α β : Type} {p : α → β → Prop} : ∀ {l : List α} {x : α} {m : List β}, All2 p (l ++ [x]) m → ∃ m' y, m = m' ++ [y] ∧ All2 p l m' ∧ p x y
  | [], x, _, .cons h1 .nil => ⟨[], _, rfl, .nil, h1⟩
  | z :: l, x, _, .cons h1 h2 => by
    obtain ⟨m', y, rfl, h3, h4⟩ := all2_snoc h2
    exact ⟨_ :: m', y, rfl, .cons h1 h3, h4⟩
theorem all2_len {R : Rep α} {fp : Nat → Prop} {w : World} : ∀ {l : List α} {css : List (List Value)}, All2 (fun x cs => R.ok w fp x cs) l css → css.flatten.length = l.length * R.size
  | _, _, .nil => by simp
  | _ :: l, _, .cons h1 h2 => by rw [List.flatten_cons, List.length_append, R.len h1, all2_len h2, List.length_cons, Nat.add_mul]; omega
/-- the last element -/
theorem OwnS.setLast {b : Nat} {l : List α} {x y : α} (h : OwnS R fp w (some ⟨b, 0, none⟩) cap (some b) e (l ++ [x])) {cs : List Value} (hy : R.ok w fp y cs) (hf : ¬ fp b) : OwnS R fp (w.setCells b (l.length * R.size) cs) (some ⟨b, 0, none⟩) cap (some b) e (l ++ [y]) := by
  obtain ⟨css, ho, ha⟩ := h
  obtain ⟨m, z, rfl, h1, h2⟩ := all2_snoc ha
  have hl1 := all2_len h1
  have hk : ∀ k, fp k → k < w.heap.size → (w.setCells b (l.length * R.size) cs).heap[k]? = w.heap[k]? := fun k hk hl => (only_setCells b cs _ w).same k hl (fun e => hf (e ▸ hk))
  refine ⟨m ++ [cs], ?_, all2_append (forall2_imp (fun x ds h => R.keep h hk (only_setCells b cs _ w).size) h1) (.cons (R.keep hy hk (only_setCells b cs _ w).size) .nil)⟩
  have hlen := ho.1
  obtain ⟨_, h3⟩ := ho
  rcases h3 with ⟨h4, _⟩ | ⟨b', cur, hg, ha', hh, hn, hc, hs, ht⟩
  · cases h4
  · cases hg
    have hlz := R.len h2
    have hlc := R.len hy
    refine ⟨by simp [hl1, hlc, Nat.add_mul], .inr ⟨b, setsAt cur (l.length * R.size) cs, rfl, rfl, heap_setCells_in b e (0, 0) cs _ w cur hh, by simpa using hn, hc, by rw [setsAt_size, hs], ?_⟩⟩
    have hroom : l.length * R.size + cs.length ≤ cur.size := by
      rw [hs, hlc]
      have : (l.length + 1) * R.size ≤ cap * R.size := Nat.mul_le_mul_right _ (by simpa using hn)
      rw [Nat.add_mul] at this; omega
    have e1 : (l ++ [y]).length * R.size = l.length * R.size + cs.length := by rw [hlc]; simp [Nat.add_mul]
    have h5 := setsAt_take cs (l.length * R.size) cur hroom
    rw [e1, h5]
    have h6 : cur.toList.take (l.length * R.size) = m.flatten := by
      have e2 : (l ++ [x]).length * R.size = l.length * R.size + R.size := by simp [Nat.add_mul]
      rw [e2] at ht
      have h7 := congrArg (List.take (l.length * R.size)) ht
      rw [List.take_take, Nat.min_eq_left (by omega), List.flatten_append, ← hl1, List.take_left] at h7
      rw [← hl1]; exact h7
    rw [h6]
    simp
end

/-! ### what comes in -/
/-- 'what reads at type t lies as R says' -/
def Opens {α : Type} (P : Program) (R : Rep α) (t : TypeId) : Prop :=
  P.cellsOf t = R.size ∧ ∀ {H : Type} {enc : TypeId × Value → H} {w : World} {base : Nat} {spare : Nat → Bool} {held : Bool} {fuel : Nat} {cs : List Value} {x : DataW H × List MemPlace},
    DataW.trod enc P w base spare held fuel t cs = some x → ∃ a : α, R.ok w (fun _ => True) a cs
section
variable {α β : Type} {P : Program} {t : TypeId}
theorem opens_nat {k : IntKind} {bound : Nat} (ht : P.underlying t = some (.int k)) (hc : P.cellsOf t = 1) (hk : ∀ n : Int, (Lit.int k n).wf = true → 0 ≤ n ∧ n < bound) : Opens P (Rep.nat k bound) t := by
  refine ⟨hc, fun h => ?_⟩
  obtain ⟨n, rfl, _, hw⟩ := DataW.trod_int ht h
  have h1 := hk n hw
  exact ⟨n.toNat, by rw [Int.toNat_of_nonneg h1.1], by omega⟩
theorem opens_u32 (ht : P.underlying t = some (.int .u32)) (hc : P.cellsOf t = 1) : Opens P Rep.u32 t :=
  opens_nat ht hc (fun n h => by simp [Lit.wf, IntKind.min, IntKind.max, IntKind.signed, IntKind.bits] at h; omega)
theorem opens_u64 (ht : P.underlying t = some (.int .u64)) (hc : P.cellsOf t = 1) : Opens P Rep.u64 t :=
  opens_nat ht hc (fun n h => by simp [Lit.wf, IntKind.min, IntKind.max, IntKind.signed, IntKind.bits] at h; omega)
theorem opens_u8 (ht : P.underlying t = some (.int .u8)) (hc : P.cellsOf t = 1) : Opens P Rep.u8 t := by
  refine ⟨hc, fun h => ?_⟩
  obtain ⟨n, rfl, _, hw⟩ := DataW.trod_int ht h
  simp [Lit.wf, IntKind.min, IntKind.max, IntKind.signed, IntKind.bits] at hw
  refine ⟨UInt8.ofNat n.toNat, ?_⟩
  show [Value.int .u8 n] = [Value.int .u8 ((UInt8.ofNat n.toNat).toNat : Int)]
  congr 2
  simp only [UInt8.toNat_ofNat']
  omega
theorem opens_str (ht : P.underlying t = some .string) (hc : P.cellsOf t = 1) : Opens P Rep.str t := by
  refine ⟨hc, fun h => ?_⟩
  obtain ⟨s, rfl, _, hs⟩ := DataW.trod_string ht h
  exact ⟨s.data.toList, by rw [bs_of s], by simpa using hs⟩
theorem opens_list {R : Rep α} {P : World → List Value → Prop} {n : Nat} (f : Nat → α → Prop) (h : ∀ i, i < n → ∃ a, f i a) : ∃ l : List α, l.length = n ∧ ∀ i a, l[i]? = some a → f i a := by
  induction n with
  | zero => exact ⟨[], rfl, fun i a h => by simp at h⟩
  | succ n ih =>
    obtain ⟨l, h1, h2⟩ := ih (fun i hi => h i (by omega))
    obtain ⟨a, ha⟩ := h n (by omega)
    refine ⟨l ++ [a], by simp [h1], fun i x hx => ?_⟩
    by_cases hi : i < l.length
    · rw [List.getElem?_append_left hi] at hx; exact h2 i x hx
    · have := (List.getElem?_eq_some_iff.1 hx).1
      obtain rfl : i = l.length := by simp at this; omega
      simp at hx
      subst hx; rw [h1]; exact ha
theorem opens_slice {R : Rep α} {e : TypeId} (ht : P.underlying t = some (.slice e)) (hc : P.cellsOf t = 1) (hpos : 0 < R.size) (he : Opens P R e) : Opens P (Rep.slice R) t := by
  refine ⟨hc, fun {H enc w base spare held fuel cs x} h => ?_⟩
  rcases Go.Deep.open_slice ht h with ⟨rfl, _⟩ | ⟨a, len, cap, m, n, D, Pl, rfl, hb, hl, hm, hmm, _, hx⟩
  · exact ⟨[], none, 0, rfl, Nat.le_refl _, by simp [maxLen], .inl rfl⟩
  · have hlm : len ≤ m := by rw [hmm]; split <;> omega
    rw [he.1] at hx
    obtain ⟨l, h1, h2⟩ := opens_list (R := R) (P := fun _ _ => True) (n := len) (fun i x => ∃ cs, R.ok w (fun _ => True) x cs ∧ ∀ k, k < R.size → w.cell? ((a.add (i * R.size)).add k) = cs[k]?) (fun i hi => by
      obtain ⟨cs', h3, h4⟩ := hx i (by omega)
      obtain ⟨y, hy⟩ := he.2 h4
      obtain ⟨_, _, h6⟩ := World.cells?_some h3
      exact ⟨y, cs', hy, h6⟩)
    refine ⟨l, some a, cap, by rw [h1], by omega, hm, ?_⟩
    rcases Nat.eq_zero_or_pos len with h0 | hpos'
    · exact .inl (List.eq_nil_of_length_eq_zero (by omega))
    · have h0 := h2 0 l[0] (List.getElem?_eq_getElem (by omega))
      obtain ⟨cs, h3, h4⟩ := h0
      have h5 := h4 0 hpos
      have h6 : 0 < cs.length := by rw [R.len h3]; exact hpos
      rw [List.getElem?_eq_getElem h6] at h5
      obtain ⟨ab, ao, spot⟩ := a
      have hspot : spot = none := by simpa [Addr.add] using World.cell?_spot h5
      subst hspot
      have hblk := World.block_lt_of_cell? w _ h5
      simp only [Addr.add_lit] at hblk
      refine .inr ⟨ab, ao, rfl, trivial, hblk, fun j x hx => ?_⟩
      obtain ⟨cs, h7, h8⟩ := h2 j x hx
      refine ⟨cs, h7, fun i hi => ?_⟩
      have h9 := h8 i hi
      rwa [Addr.add_lit, Addr.add_lit] at h9
/-- fields, one behind the other -/
inductive OpensF (P : Program) : {α : Type} → Rep α → List Field → Nat → Prop
  | nil {o : Nat} : OpensF P Rep.unit [] o
  | cons {α β : Type} {R : Rep α} {S : Rep β} {f : Field} {fs : List Field} {o : Nat} (h1 : f.offset = o) (h2 : Opens P R f.type) (h3 : OpensF P S fs (o + R.size)) : OpensF P (R.prod S) (f :: fs) o
theorem opensF_read {fs : List Field} {R : Rep α} {o : Nat} (h : OpensF P R fs o) : ∀ {H : Type} {enc : TypeId × Value → H} {w : World} {base : Nat} {spare : Nat → Bool} {held : Bool} {n : Nat} {cs : List Value},
    cs.length = o + R.size → (∀ f ∈ fs, ∃ x : DataW H × List MemPlace, DataW.trod enc P w base spare held n f.type ((cs.drop f.offset).take (P.cellsOf f.type)) = some x) → ∃ a : α, R.ok w (fun _ => True) a (cs.drop o) := by
  induction h with
  | nil => exact fun hl _ => ⟨(), List.drop_eq_nil_of_le (by rw [hl]; exact Nat.le_refl _)⟩
  | @cons α β R S f fs o h1 h2 h3 ih =>
    intro H enc w base spare held n cs hl hf
    have hl' : cs.length = o + R.size + S.size := by rw [hl]; show o + (R.size + S.size) = _; omega
    obtain ⟨x, hx⟩ := hf f (by simp)
    obtain ⟨a, ha⟩ := h2.2 hx
    obtain ⟨b, hb⟩ := ih (enc := enc) (w := w) (base := base) (spare := spare) (held := held) (n := n) hl' (fun g hg => hf g (by simp [hg]))
    refine ⟨(a, b), (cs.drop o).take R.size, cs.drop (o + R.size), ?_, ?_, hb⟩
    · rw [← List.drop_drop, List.take_append_drop]
    · rw [h1, h2.1] at ha; exact ha
theorem opens_struct {R : Rep α} {fs : Array Field} (ht : P.underlying t = some (.struct fs)) (hc : P.cellsOf t = R.size) (hf : OpensF P R fs.toList 0) : Opens P R t := by
  refine ⟨hc, fun h => ?_⟩
  obtain ⟨xs, n, _, _, hl, hxl, hx⟩ := DataW.trod_struct ht h
  obtain ⟨a, ha⟩ := opensF_read hf (n := n) (cs := _) (by rw [hl, hc, Nat.zero_add]) (fun f hf => by
    obtain ⟨i, hi, rfl⟩ := List.getElem_of_mem hf
    have h1 := hx i fs.toList[i] (by simp at hi; simp [hi])
    rw [List.getElem?_eq_getElem (by simp at hi; omega)] at h1
    exact ⟨_, h1⟩)
  exact ⟨a, by simpa using ha⟩
theorem opens_map {R : Rep α} (f : α → β) (h : Opens P R t) : Opens P (R.map f) t := ⟨h.1, fun hx => by obtain ⟨a, ha⟩ := h.2 hx; exact ⟨f a, a, rfl, ha⟩⟩
end
/-- a slice among the arguments -/
theorem open_slice_arg {H : Type} {enc : TypeId × Value → H} {P : Program} {α : Type} {R : Rep α} {W : World} {base : Nat} {t e : TypeId} {v : Value} {d : DataW H} {p : List MemPlace} (ho : Opens P (Rep.slice R) t) (ht : P.underlying t = some (.slice e))
    (hval : Value.okWide P W .any base t v) (h : DataW.Trod enc P W 0 (fun _ => true) true t v d p) :
    ∃ ao cap l, v = .slice ao l.length cap ∧ l.length ≤ cap ∧ cap ≤ maxLen ∧ RdS R (fun b => b < W.heap.size) W ao l := by
  obtain ⟨a1, len, cap, rfl⟩ := Go.WideShapes.okWide_slice ht hval
  obtain ⟨fuel, hf⟩ := h
  obtain ⟨l, ao, cap', hcs, h1, h2, h3⟩ := ho.2 hf
  simp only [Value.cells, List.cons.injEq, and_true] at hcs
  obtain ⟨rfl, rfl, rfl⟩ : a1 = ao ∧ len = l.length ∧ cap = cap' := by simpa using hcs
  exact ⟨a1, cap, l, rfl, h1, h2, h3.mono (fun b _ hb => hb)⟩
theorem RdS.rdStr {fp : Nat → Prop} {w : World} {ao : Option Addr} {l : List (List UInt8)} (h : RdS Rep.str fp w ao l) : Rd w ao l.length (strCells l) := by
  refine ⟨by simp [strCells], ?_⟩
  rcases h with h | ⟨b, off, h1, h2, h3, h4⟩
  · subst h; exact .inl rfl
  · refine .inr ⟨b, off, h1, h3, fun j hj => ?_⟩
    obtain ⟨cs, ⟨rfl, _⟩, h6⟩ := h4 j l[j] (List.getElem?_eq_getElem hj)
    have h7 := h6 0 Nat.one_pos
    simp only [Rep.str, Nat.mul_one, Nat.add_zero] at h7
    rw [h7]
    simp [strCells, hj]
theorem RdS.rdU8 {fp : Nat → Prop} {w : World} {ao : Option Addr} {l : List UInt8} (h : RdS Rep.u8 fp w ao l) : Rd w ao l.length (byteVals l) := by
  refine ⟨by simp [byteVals], ?_⟩
  rcases h with h | ⟨b, off, h1, h2, h3, h4⟩
  · subst h; exact .inl rfl
  · refine .inr ⟨b, off, h1, h3, fun j hj => ?_⟩
    obtain ⟨cs, rfl, h6⟩ := h4 j l[j] (List.getElem?_eq_getElem hj)
    have h7 := h6 0 Nat.one_pos
    simp only [Rep.u8, Nat.mul_one, Nat.add_zero] at h7
    rw [h7]
    simp [byteVals, hj]
end Go.Proofs.Ytmflopeedofkhaa

namespace Go.Proofs.Ytmflopeedofkhaa
set_option linter.unusedSimpArgs false
set_option linter.unusedVariables false
set_option maxRecDepth 100000

def be4 (n : Nat) : List UInt8 := [UInt8.ofNat (n / 16777216), UInt8.ofNat (n / 65536), UInt8.ofNat (n / 256), UInt8.ofNat n]
def key3 (a b c : Nat) : List UInt8 := be4 a ++ be4 b ++ be4 c
theorem key3_len (a b c : Nat) : (key3 a b c).length = 12 := rfl
/-- a number of bytes -/
def num4 (l : List UInt8) : Nat := l.foldl (fun n c => n * 256 + c.toNat) 0
def keyOf (l : List UInt8) : Nat × Nat × Nat := (num4 (l.take 4), num4 ((l.drop 4).take 4), num4 ((l.drop 8).take 4))
theorem u8n (n : Nat) : (UInt8.ofNat n).toNat = n % 256 := by simp
theorem num4_be4 (n : Nat) (h : n < 4294967296) : num4 (be4 n) = n := by
  simp only [num4, be4, List.foldl_cons, List.foldl_nil, u8n]; omega
theorem keyOf_key3 (a b c : Nat) (ha : a < 4294967296) (hb : b < 4294967296) (hc : c < 4294967296) : keyOf (key3 a b c) = (a, b, c) := by
  unfold keyOf
  rw [show (key3 a b c).take 4 = be4 a from rfl, show ((key3 a b c).drop 4).take 4 = be4 b from rfl, show ((key3 a b c).drop 8).take 4 = be4 c from rfl, num4_be4 a ha, num4_be4 b hb, num4_be4 c hc]
theorem be4_num4 (a b c d : UInt8) : be4 (num4 [a, b, c, d]) = [a, b, c, d] := by
  have h1 := a.toNat_lt; have h2 := b.toNat_lt; have h3 := c.toNat_lt; have h4 := d.toNat_lt
  simp only [num4, be4, List.foldl_cons, List.foldl_nil]
  simp only [List.cons.injEq, and_true, ← UInt8.toNat_inj, u8n]
  omega
theorem num4_lt (a b c d : UInt8) : num4 [a, b, c, d] < 4294967296 := by
  have h1 := a.toNat_lt; have h2 := b.toNat_lt; have h3 := c.toNat_lt; have h4 := d.toNat_lt
  simp only [num4, List.foldl_cons, List.foldl_nil]; omega
theorem twelve (l : List UInt8) (h : l.length = 12) : ∃ a b c d e f g i j k m n, l = [a, b, c, d, e, f, g, i, j, k, m, n] := by
  match l, h with
  | [a, b, c, d, e, f, g, i, j, k, m, n], _ => exact ⟨a, b, c, d, e, f, g, i, j, k, m, n, rfl⟩
theorem key3_keyOf (l : List UInt8) (h : l.length = 12) : key3 (keyOf l).1 (keyOf l).2.1 (keyOf l).2.2 = l ∧ (keyOf l).1 < 4294967296 ∧ (keyOf l).2.1 < 4294967296 ∧ (keyOf l).2.2 < 4294967296 := by
  obtain ⟨a, b, c, d, e, f, g, i, j, k, m, n, rfl⟩ := twelve l h
  refine ⟨?_, num4_lt a b c d, num4_lt e f g i, num4_lt j k m n⟩
  show be4 (num4 [a, b, c, d]) ++ be4 (num4 [e, f, g, i]) ++ be4 (num4 [j, k, m, n]) = _
  rw [be4_num4, be4_num4, be4_num4]; rfl
/-- of two keys the lower one is that of the lower numbers -/
theorem be4_lt (a b : Nat) (r s : List UInt8) (ha : a < 4294967296) (hb : b < 4294967296) : (be4 a ++ r < be4 b ++ s) ↔ (a < b ∨ (a = b ∧ r < s)) := by
  simp only [be4, List.cons_append, List.nil_append, List.cons_lt_cons_iff, UInt8.lt_iff_toNat_lt, ← UInt8.toNat_inj, u8n]
  have dig : ∀ n : Nat, n < 4294967296 → n / 16777216 % 256 < 256 ∧ n / 65536 % 256 < 256 ∧ n / 256 % 256 < 256 ∧ n % 256 < 256 ∧ n = n / 16777216 % 256 * 16777216 + n / 65536 % 256 * 65536 + n / 256 % 256 * 256 + n % 256 := by
    intro n hn
    have p1 : n / 256 / 256 = n / 65536 := by rw [Nat.div_div_eq_div_mul]
    have p2 : n / 65536 / 256 = n / 16777216 := by rw [Nat.div_div_eq_div_mul]
    omega
  have da := dig a ha
  have db := dig b hb
  generalize a / 16777216 % 256 = a3 at *
  generalize a / 65536 % 256 = a2 at *
  generalize a / 256 % 256 = a1 at *
  generalize a % 256 = a0 at *
  generalize b / 16777216 % 256 = b3 at *
  generalize b / 65536 % 256 = b2 at *
  generalize b / 256 % 256 = b1 at *
  generalize b % 256 = b0 at *
  clear dig
  constructor
  · rintro (h | ⟨h1, (h | ⟨h2, (h | ⟨h3, (h | ⟨h4, h⟩)⟩)⟩)⟩)
    · left; omega
    · left; omega
    · left; omega
    · left; omega
    · right; exact ⟨by omega, h⟩
  · rintro (h | ⟨h0, h⟩)
    · by_cases h1 : a3 < b3
      · exact .inl h1
      · right
        refine ⟨by omega, ?_⟩
        by_cases h2 : a2 < b2
        · exact .inl h2
        · right
          refine ⟨by omega, ?_⟩
          by_cases h3 : a1 < b1
          · exact .inl h3
          · exact .inr ⟨by omega, .inl (by omega)⟩
    · exact .inr ⟨by omega, .inr ⟨by omega, .inr ⟨by omega, .inr ⟨by omega, h⟩⟩⟩⟩
theorem key3_lt (a b c x y z : Nat) (ha : a < 4294967296) (hb : b < 4294967296) (hc : c < 4294967296) (hx : x < 4294967296) (hy : y < 4294967296) (hz : z < 4294967296) :
    (key3 a b c < key3 x y z) ↔ (a < x ∨ (a = x ∧ (b < y ∨ (b = y ∧ c < z)))) := by
  unfold key3
  rw [List.append_assoc, List.append_assoc, be4_lt _ _ _ _ ha hx, be4_lt _ _ _ _ hb hy]
  have := be4_lt c z [] [] hc hz
  simp only [List.append_nil, List.lt_irrefl, and_false, or_false] at this
  rw [this]
end Go.Proofs.Ytmflopeedofkhaa

namespace Go.Proofs.Ytmflopeedofkhaa
set_option linter.unusedSimpArgs false
set_option linter.unusedVariables false
set_option maxRecDepth 100000
open Go.RowKit

abbrev EdgeD := Nat × Nat × Nat
def okE (x : EdgeD) : Prop := x.1 < 4294967296 ∧ x.2.1 < 4294967296 ∧ x.2.2 < 4294967296
theorem bytesElem : Elem Try.prog 22 5 1 1 (.int .u8 0) := Elem.mk' Try.underlying22 (by kernel_rfl) rfl (by decide)
theorem Rd.only {w w' : World} {ao : Option Addr} {n : Nat} {xs : List Value} {fp : Nat → Prop} (h : Rd w ao n xs) (ho : Only fp w w') (hn : 0 < n → ∀ k off, ao = some ⟨k, off, none⟩ → ¬ fp k) : Rd w' ao n xs := by
  refine ⟨h.1, ?_⟩
  rcases Nat.eq_zero_or_pos n with h0 | h0
  · exact .inl h0
  · obtain ⟨b, off, h1, h2, h3⟩ := h.pos h0
    exact .inr ⟨b, off, h1, Nat.lt_of_lt_of_le h2 ho.size, fun j hj => (ho.cell h2 (hn h0 b off h1) (off + j)).trans (h3 j hj)⟩
theorem be4_vals (a : Nat) (ha : a < 4294967296) : byteVals (be4 a) = [.int .u8 ((a : Int) / 16777216), .int .u8 ((a : Int) / 65536 % 256), .int .u8 ((a : Int) / 256 % 256), .int .u8 ((a : Int) % 256)] := by
  simp only [byteVals, be4, List.map_cons, List.map_nil, u8n]
  have h : ((a / 16777216 % 256 : Nat) : Int) = (a : Int) / 16777216 := by omega
  rw [h]
  rfl
theorem key3_vals (a b c : Nat) : byteVals (key3 a b c) = byteVals (be4 a) ++ byteVals (be4 b) ++ byteVals (be4 c) := by simp [byteVals, key3]
theorem bits_or_u32_nat (a b : Nat) (ha : a < 4294967296) (hb : b < 4294967296) : bits .or .u32 (a : Int) (b : Int) = ((a ||| b : Nat) : Int) := by
  have hx : a ||| b < 2 ^ 32 := Nat.or_lt_two_pow (by omega) (by omega)
  have h1 : (BitVec.ofInt 32 (a : Int)).toNat = a := by
    rw [BitVec.ofInt_natCast, BitVec.toNat_ofNat]; exact Nat.mod_eq_of_lt (by omega)
  have h2 : (BitVec.ofInt 32 (b : Int)).toNat = b := by
    rw [BitVec.ofInt_natCast, BitVec.toNat_ofNat]; exact Nat.mod_eq_of_lt (by omega)
  show IntKind.u32.wrap ((BitVec.ofInt 32 (a : Int) ||| BitVec.ofInt 32 (b : Int)).toNat : Int) = _
  rw [BitVec.toNat_or, h1, h2]
  simp [IntKind.wrap, IntKind.bits, IntKind.signed]
  omega
theorem or_first (c : Nat) (h : c < 256) : bits .or .u32 0 (c : Int) = (c : Int) := by
  have := bits_or_u32_nat 0 c (by omega) (by omega)
  simpa using this
theorem or_next (x c : Nat) (hx : x < 16777216) (hc : c < 256) : bits .or .u32 ((x : Int) * 256 % 4294967296) (c : Int) = ((x * 256 + c : Nat) : Int) := by
  have h1 : (x : Int) * 256 % 4294967296 = ((x * 256 : Nat) : Int) := by omega
  rw [h1, bits_or_u32_nat _ _ (by omega) (by omega)]
  have h2 := Nat.two_pow_add_eq_or_of_lt (i := 8) hc x
  rw [Nat.mul_comm] at h2
  rw [show x * 256 = x * 2 ^ 8 from rfl, ← h2]
def numE (x : EdgeD) (j : Nat) : Nat := if j = 0 then x.1 else if j = 1 then x.2.1 else x.2.2
/-- what is printed so far -/
def prE (w : World) (B : List UInt8) (o : Value) (wr : World) : Prop :=
  ∃ ao cap g, o = .slice ao B.length cap ∧ Own wr ao cap g 5 1 B.length (byteVals B) ∧ (∀ k, g = some k → w.heap.size ≤ k) ∧ Below w.heap.size w wr
theorem srcManyE {P : Program} {tx e' : TypeId} (hk : P.underlying tx = some (.slice e')) (w : World) (cs : List Value) (t : TypeId) (k size n : Nat) (hn : n = w.heap.size) (hs : cs.length = size) (h1 : ∀ u ∈ cs, u.oneCell' = true) :
    Src P size tx (.slice (some ⟨n, 0, none⟩) 1 k) 1 cs (w.alloc (.cells cs.toArray t)) := by
  subst hn
  exact Src.ofSlice (w.alloc (.cells cs.toArray t)) hk ⟨w.heap.size, 0, none⟩ 1 k cs (by omega) (fun j u hu => by
    rw [Addr.add_lit, Nat.zero_add, World.cell?_alloc_new]
    simpa using hu) h1
def edgeRep : Rep EdgeD := Rep.prod Rep.u32 (Rep.prod Rep.u32 Rep.u32)
def edgeCs (x : EdgeD) : List Value := [.int .u32 (x.1 : Nat), .int .u32 (x.2.1 : Nat), .int .u32 (x.2.2 : Nat)]
theorem edgeRep_ok {W : World} {fp : Nat → Prop} {x : EdgeD} (h : okE x) : edgeRep.ok W fp x (edgeCs x) := ⟨[_], [_, _], rfl, ⟨rfl, h.1⟩, [_], [_], rfl, ⟨rfl, h.2.1⟩, ⟨rfl, h.2.2⟩⟩
structure EB (s : Nat) (w W : World) : Prop where
  below : Below s w W
  size : s < W.heap.size
  r0 : W.cell? ⟨s, 0, none⟩ = some (.int .u32 0)
  r1 : W.cell? ⟨s, 1, none⟩ = some (.int .u32 0)
  r2 : W.cell? ⟨s, 2, none⟩ = some (.int .u32 0)
  g0 : W.frozen? ⟨s, 0, none⟩ = false
  g1 : W.frozen? ⟨s, 1, none⟩ = false
  g2 : W.frozen? ⟨s, 2, none⟩ = false
theorem EB.ext {s : Nat} {w W W' : World} (h : EB s w W) (hB : Below W.heap.size W W') : EB s w W' := by
  obtain ⟨a, b, r0, r1, r2, g0, g1, g2⟩ := h
  have hc := (bcell hB).1
  have hf := (bcell hB).2
  have hs := hB.size
  exact ⟨a.trans (hB.mono (by omega)), by omega, (hc _ _ (by omega)).trans r0, (hc _ _ (by omega)).trans r1, (hc _ _ (by omega)).trans r2, (hf _ _ (by omega)).trans g0, (hf _ _ (by omega)).trans g1, (hf _ _ (by omega)).trans g2⟩
end Go.Proofs.Ytmflopeedofkhaa

namespace Go.Proofs.Ytmflopeedofkhaa
set_option linter.unusedSimpArgs false
set_option linter.unusedVariables false
set_option maxRecDepth 100000
open Go.RowKit

/-- block b is a map of these entries; its next stamp is clk -/
def MapIs (w : World) (b : Nat) (es : List MapEntry) (clk : Nat) : Prop := w.heap[b]? = some (.map es.toArray clk)
theorem MapIs.lt {w : World} {b : Nat} {es : List MapEntry} {clk : Nat} (h : MapIs w b es clk) : b < w.heap.size := (Array.getElem?_eq_some_iff.1 h).1
theorem MapIs.keep {w w' : World} {b : Nat} {es : List MapEntry} {clk : Nat} (h : MapIs w b es clk) (hk : w'.heap[b]? = w.heap[b]?) : MapIs w' b es clk := hk.trans h
theorem MapIs.ext {w w' : World} {b : Nat} {es : List MapEntry} {clk : Nat} (h : MapIs w b es clk) (hB : Below w.heap.size w w') : MapIs w' b es clk := h.keep (hB.block b h.lt)

/-- block r is a range over map m, which has handed out the stamps seen -/
def IterIs (w : World) (r m clk : Nat) (seen : Array Nat) : Prop := w.heap[r]? = some (.mapIter (some m) clk seen clk)
theorem IterIs.lt {w : World} {r m clk : Nat} {seen : Array Nat} (h : IterIs w r m clk seen) : r < w.heap.size := (Array.getElem?_eq_some_iff.1 h).1
theorem IterIs.keep {w w' : World} {r m clk : Nat} {seen : Array Nat} (h : IterIs w r m clk seen) (hk : w'.heap[r]? = w.heap[r]?) : IterIs w' r m clk seen := hk.trans h
theorem IterIs.ext {w w' : World} {r m clk : Nat} {seen : Array Nat} (h : IterIs w r m clk seen) (hB : Below w.heap.size w w') : IterIs w' r m clk seen := h.keep (hB.block r h.lt)
theorem IterIs.iterSeen {w : World} {r m clk : Nat} {seen : Array Nat} (h : IterIs w r m clk seen) : w.iterSeen r = seen := by
  unfold World.iterSeen
  rw [show w.heap[r]? = _ from h]

section
variable {P : Program}
theorem run_range_is {w : World} {t k e : TypeId} {b clk : Nat} {es : List MapEntry} (ht : P.underlying t = some (.map k e)) (h : MapIs w b es clk) :
    (Instr.range t (.map (some b))).run P w = .ok (.pointer (some ⟨w.heap.size, 0, none⟩)) (w.alloc (.mapIter (some b) clk #[] clk)) := run_range_map w t k e b es.toArray clk ht h
theorem run_entry_is {w : World} {r b clk : Nat} {seen : Array Nat} {es : List MapEntry} {e : MapEntry} (hr : IterIs w r b clk (seen.push e.born)) (hb : MapIs w b es clk) (he : e ∈ es) (hn : (es.map (·.born)).Nodup) :
    (Instr.entry (.pointer (some ⟨r, 0, none⟩))).run P w = .ok (.tuple #[e.key, e.val]) w := by
  have hf : es.toArray.find? (·.born == e.born) = some e := by rw [← Array.find?_toList]; exact find_born e es hn he
  unfold IterIs at hr
  unfold MapIs at hb
  simp only [Instr.entry, getObj, Sem.run_bind, Sem.run, hr, hb, Result.andThen, Array.back?_push, bne_self_eq_false, Bool.false_eq_true, if_false, hf]
  rfl
theorem run_next_is {w : World} {r b clk : Nat} {seen : Array Nat} {es : List MapEntry} (hr : IterIs w r b clk seen) (hb : MapIs w b es clk) (hold : ∀ x ∈ es, x.born < clk) (ty : TypeId) :
    ((leftOf es.toArray seen).size = 0 ∧ (Instr.next (.pointer (some ⟨r, 0, none⟩)) false ty).run P w = .ok (.tuple #[.bool false]) w) ∨
    ∃ e ∈ (leftOf es.toArray seen).toList, ∃ w' : World, (Instr.next (.pointer (some ⟨r, 0, none⟩)) false ty).run P w = .ok (.tuple #[.bool true, e.key, e.val]) w' ∧ IterIs w' r b clk (seen.push e.born) ∧ Only (fun k => k = r) w w' ∧ w'.heap.size = w.heap.size := by
  have hold' : ∀ x ∈ es.toArray.toList, x.born < clk := fun x hx => hold x (by simpa using hx)
  unfold IterIs at hr
  unfold MapIs at hb
  simp only [Instr.next, getObj, Sem.run_bind, Sem.run, hr, hb, Result.andThen, next_test_false seen es.toArray clk clk hold' (Nat.le_refl _), Bool.false_eq_true, if_false]
  unfold leftOf
  have hmem : ∀ x ∈ (Array.filter (fun e => !seen.contains e.born) es.toArray).toList, x.born < clk := fun x hx => hold x (by simp at hx; exact hx.1)
  generalize Array.filter (fun e => !seen.contains e.born) es.toArray = L at hmem ⊢
  have e1 : L.filter (fun x => decide (x.born < clk)) = L := Array.filter_eq_self.2 (fun x hx => by simpa using hmem x (by simpa using hx))
  have e2 : L.filter (fun x => decide (x.born ≥ clk)) = #[] := by
    rw [Array.filter_eq_empty_iff]
    intro x hx
    have := hmem x (by simpa using hx)
    simp
    omega
  simp only [e1, e2, Array.append_empty]
  by_cases h0 : L.size = 0
  · left
    have : L = #[] := Array.eq_empty_of_size_eq_zero h0
    subst this
    refine ⟨rfl, ?_⟩
    simp [choose, Sem.run, Question.forced]
  · right
    have hne : L.isEmpty = false := by simp [Array.isEmpty, h0]
    simp only [hne, Bool.false_eq_true, if_false, Array.empty_append, Array.size_map]
    have hch : ∃ (j : Nat) (w1 : World), j < L.size ∧ (w1 = w ∨ w1 = w.drew) ∧ (choose (Question.mapNext L.size)).run P w = .ok j w1 := by
      by_cases hf : L.size ≤ 1
      · exact ⟨0, w, by omega, .inl rfl, by simp [choose, Sem.run, Question.forced, hf]⟩
      · exact ⟨_, w.drew, Nat.mod_lt _ (by omega), .inr rfl, by
          simp only [choose, Sem.run, Question.forced, decide_eq_true_eq, hf, if_false, Question.cut]
          rfl⟩
    obtain ⟨j, w1, hj, hal, hrun⟩ := hch
    have hh : w1.heap = w.heap := by rcases hal with h | h <;> rw [h] <;> rfl
    have hr1 : w1.heap[r]? = some (.mapIter (some b) clk seen clk) := by rw [hh]; exact hr
    have hrl : r < w.heap.size := (Array.getElem?_eq_some_iff.1 hr).1
    refine ⟨L[j], by simp, { w1 with heap := w1.heap.setIfInBounds r (.mapIter (some b) clk (seen.push L[j].born) clk) }, ?_, ?_, ?_, ?_⟩
    · have hset : (setObj r (.mapIter (some b) clk (seen.push L[j].born) clk)).run P w1 = .ok () { w1 with heap := w1.heap.setIfInBounds r (.mapIter (some b) clk (seen.push L[j].born) clk) } := by
        simp only [setObj, Sem.run, hr1]
      simp only [hrun, Array.getElem?_map, Array.getElem?_eq_getElem hj, Option.map_some, Sem.run_bind, hset, Result.andThen]
      rfl
    · unfold IterIs
      simp [hh, hrl]
    · refine ⟨?_, ?_, ?_, by simp [hh], fun k hk hn => ?_⟩
      · rcases hal with h | h <;> rw [h] <;> rfl
      · rcases hal with h | h <;> rw [h] <;> rfl
      · rcases hal with h | h <;> rw [h] <;> rfl
      · show (w1.heap.setIfInBounds r _)[k]? = _
        rw [Array.getElem?_setIfInBounds, if_neg (fun e => hn e.symm), hh]
    · simp [hh]
theorem ba_false {a b : ByteArray} (h : a ≠ b) : (a == b) = false := by
  cases hb : a == b with
  | false => rfl
  | true => exact absurd ((MapKept.bytes_beq a b).1 hb) h
theorem ba_true (a : ByteArray) : (a == a) = true := (MapKept.bytes_beq a a).2 rfl
theorem check_str (w : World) {k : TypeId} (hk : P.underlying k = some .string) (em : Bool) (key : ByteArray) (n : Nat) : (Instr.checkKey em (n + 1) k (.string key)).run P w = .ok () w := by
  rw [Instr.checkKey]
  simp [run_underlying hk]
theorem findNow_none (key : ByteArray) : ∀ (es : List MapEntry) (i : Nat), (∀ x ∈ es, ∃ s : ByteArray, x.key = .string s ∧ key ≠ s) → Instr.findNow .string (.string key) es i = some none
  | [], _, _ => rfl
  | e :: es, i, h => by
    obtain ⟨s, hs, hne⟩ := h e (by simp)
    unfold Instr.findNow
    rw [hs]
    have := ba_false hne
    simp only [Instr.sameNow, this]
    exact findNow_none key es (i + 1) (fun x hx => h x (by simp [hx]))
theorem findNow_some (key : ByteArray) (v : Value) (n : Nat) : ∀ (es : List MapEntry) (i : Nat) (pre post : List MapEntry), es = pre ++ ⟨.string key, v, n⟩ :: post → (∀ x ∈ pre, ∃ s : ByteArray, x.key = .string s ∧ key ≠ s) → Instr.findNow .string (.string key) es i = some (some (i + pre.length, v))
  | _, i, [], post, rfl, _ => by
    unfold Instr.findNow
    simp only [List.nil_append, Instr.sameNow, ba_true]
    rfl
  | _, i, e :: pre, post, rfl, h => by
    obtain ⟨s, hs, hne⟩ := h e (by simp)
    rw [List.cons_append]
    unfold Instr.findNow
    rw [hs]
    have := ba_false hne
    simp only [Instr.sameNow, this]
    rw [findNow_some key v n (pre ++ ⟨.string key, v, n⟩ :: post) (i + 1) pre post rfl (fun x hx => h x (by simp [hx]))]
    simp [Nat.add_assoc, Nat.add_comm 1]
theorem run_insert_is {w : World} {t k e : TypeId} {b clk : Nat} {es : List MapEntry} {key : ByteArray} (v : Value) (ht : P.underlying t = some (.map k e)) (hk : P.underlying k = some .string) (h : MapIs w b es clk) (hne : ∀ x ∈ es, ∃ s : ByteArray, x.key = .string s ∧ key ≠ s) :
    ∃ w', (Instr.mapUpdate t (.map (some b)) (.string key) v).run P w = .ok () w' ∧ MapIs w' b (es ++ [⟨.string key, v, clk⟩]) (clk + 1) ∧ Only (fun k => k = b) w w' ∧ w'.heap.size = w.heap.size := by
  unfold MapIs at h
  have hb := (Array.getElem?_eq_some_iff.1 h).1
  refine ⟨({ w with heap := w.heap.setIfInBounds b (.map (es ++ [(⟨.string key, v, clk⟩ : MapEntry)]).toArray (clk + 1)) } : World), ?_, ?_, ?_, by simp⟩
  · have hf := findNow_none key es 0 hne
    have hck : ∀ em, (Instr.checkKey em 10000 k (.string key)).run P w = .ok () w := fun em => check_str w hk em key 9999
    have hfk := MapKept.run_findKey (P := P) (w := w) hk hf
    simp [Instr.mapUpdate, run_underlying ht, getObj, Sem.run, h, hck, hfk, Result.andThen, setObj]
  · unfold MapIs
    simp [hb]
  · refine ⟨rfl, rfl, rfl, by simp, fun k hk hn => ?_⟩
    show (w.heap.setIfInBounds b _)[k]? = _
    rw [Array.getElem?_setIfInBounds, if_neg (fun e => hn e.symm)]
theorem wpList_insert_is {w : World} {ops : Array Oper} {rest : List Oper} {o : Oper} {a : Act} {Q : Exit → Act → World → Prop} (hg : o.guard = none) (m x v : Operand) (t : TypeId) (hop : o.op = Op.insert t m x v)
    {k e : TypeId} {b clk : Nat} {es : List MapEntry} {key : ByteArray} {val : Value} (ht : P.underlying t = some (.map k e)) (hk : P.underlying k = some .string) (hm : a.eval m = .map (some b)) (hx : a.eval x = .string key) (hv : a.eval v = val)
    (h : MapIs w b es clk) (hne : ∀ x ∈ es, ∃ s : ByteArray, x.key = .string s ∧ key ≠ s)
    (hK : ∀ w', MapIs w' b (es ++ [⟨.string key, val, clk⟩]) (clk + 1) → Only (fun k => k = b) w w' → w'.heap.size = w.heap.size → wpList P ops Q rest (a.put o.dst undef) w') : wpList P ops Q (o :: rest) a w := by
  refine wpList_plain hg fun K' hK' => ?_
  obtain ⟨w', hrun, r1, r2, r3⟩ := run_insert_is val ht hk h hne
  unfold Oper.wp
  simp [execOp, hop, hm, hx, hv, hrun, Result.andThen]
  exact hK' _ _ (hK w' r1 r2 r3)
/-- a look-up that finds nothing, one that finds something -/
theorem run_lookup_no {w : World} {t k e : TypeId} {b clk : Nat} {es : List MapEntry} {key : ByteArray} {z : Value} (ht : P.underlying t = some (.map k e)) (hk : P.underlying k = some .string) (hz : ∀ w, (zeroValue e).run P w = .ok z w) (h : MapIs w b es clk) (hne : ∀ x ∈ es, ∃ s : ByteArray, x.key = .string s ∧ key ≠ s) :
    (Instr.lookup t (.map (some b)) (.string key) false).run P w = .ok z w ∧ (Instr.lookup t (.map (some b)) (.string key) true).run P w = .ok (.tuple #[z, .bool false]) w := by
  unfold MapIs at h
  have hf := findNow_none key es 0 hne
  have hck : ∀ em, (Instr.checkKey em 10000 k (.string key)).run P w = .ok () w := fun em => check_str w hk em key 9999
  have hfk := MapKept.run_findKey (P := P) (w := w) hk hf
  constructor <;> simp [Instr.lookup, run_underlying ht, getObj, Sem.run, h, hck, hfk, Result.andThen, hz]
theorem run_lookup_is {w : World} {t k e : TypeId} {b clk : Nat} {pre post : List MapEntry} {key : ByteArray} {v : Value} {n : Nat} (ht : P.underlying t = some (.map k e)) (hk : P.underlying k = some .string) (h : MapIs w b (pre ++ ⟨.string key, v, n⟩ :: post) clk) (hne : ∀ x ∈ pre, ∃ s : ByteArray, x.key = .string s ∧ key ≠ s) :
    (Instr.lookup t (.map (some b)) (.string key) false).run P w = .ok v w ∧ (Instr.lookup t (.map (some b)) (.string key) true).run P w = .ok (.tuple #[v, .bool true]) w := by
  unfold MapIs at h
  have hf := findNow_some key v n _ 0 pre post rfl hne
  have hck : ∀ em, (Instr.checkKey em 10000 k (.string key)).run P w = .ok () w := fun em => check_str w hk em key 9999
  have hfk := MapKept.run_findKey (P := P) (w := w) hk hf
  constructor <;> simp [Instr.lookup, run_underlying ht, getObj, Sem.run, h, hck, hfk, Result.andThen]
end
end Go.Proofs.Ytmflopeedofkhaa

namespace Go.Proofs.Ytmflopeedofkhaa
set_option linter.unusedSimpArgs false
set_option linter.unusedVariables false
set_option maxRecDepth 100000
open Go.RowKit

/-- block b is a map which has f's values -/
def MapFn (w : World) (b : Nat) (f : List UInt8 → Option Value) : Prop :=
  ∃ (es : List MapEntry) (clk : Nat), MapIs w b es clk ∧ (∀ x ∈ es, ∃ s, x.key = .string (bs s) ∧ f s = some x.val) ∧ (∀ s v, f s = some v → ∃ x ∈ es, x.key = .string (bs s)) ∧ (es.map (·.key)).Nodup
theorem MapFn.lt {w : World} {b : Nat} {f : List UInt8 → Option Value} (h : MapFn w b f) : b < w.heap.size := by
  obtain ⟨es, clk, h1, _⟩ := h
  exact h1.lt
theorem MapFn.keep {w w' : World} {b : Nat} {f : List UInt8 → Option Value} (h : MapFn w b f) (hk : w'.heap[b]? = w.heap[b]?) : MapFn w' b f := by
  obtain ⟨es, clk, h1, h2⟩ := h
  exact ⟨es, clk, h1.keep hk, h2⟩
theorem MapFn.ext {w w' : World} {b : Nat} {f : List UInt8 → Option Value} (h : MapFn w b f) (hB : Below w.heap.size w w') : MapFn w' b f := h.keep (hB.block b h.lt)
theorem MapFn.only {w w' : World} {b : Nat} {f : List UInt8 → Option Value} {fp : Nat → Prop} (h : MapFn w b f) (ho : Only fp w w') (hn : ¬ fp b) : MapFn w' b f := h.keep (ho.same b h.lt hn)
/-- a map that was made just now -/
theorem MapFn.new {w : World} {b : Nat} (h : MapIs w b [] 0) : MapFn w b (fun _ => none) :=
  ⟨[], 0, h, fun x hx => (by simp at hx), fun s v hs => (by simp at hs), by simp⟩
def updF (f : List UInt8 → Option Value) (s : List UInt8) (v : Value) : List UInt8 → Option Value := fun t => if t = s then some v else f t
theorem first_key (s : List UInt8) : ∀ es : List MapEntry, (∀ x ∈ es, ∃ t, x.key = .string (bs t)) → (∃ x ∈ es, x.key = .string (bs s)) →
    ∃ pre x post, es = pre ++ x :: post ∧ x.key = .string (bs s) ∧ ∀ y ∈ pre, ∃ t : ByteArray, y.key = .string t ∧ bs s ≠ t
  | [], _, h => by obtain ⟨x, hx, _⟩ := h; cases hx
  | e :: es, hk, h => by
    obtain ⟨t, ht⟩ := hk e (by simp)
    by_cases he : bs s = bs t
    · exact ⟨[], e, es, rfl, by rw [ht, he], fun y hy => by cases hy⟩
    · obtain ⟨pre, x, post, h1, h2, h3⟩ := first_key s es (fun x hx => hk x (by simp [hx])) (by
        obtain ⟨x, hx, h⟩ := h
        rcases List.mem_cons.1 hx with rfl | hx
        · rw [ht] at h; injection h with h; exact absurd h.symm he
        · exact ⟨x, hx, h⟩)
      refine ⟨e :: pre, x, post, by rw [h1]; rfl, h2, fun y hy => ?_⟩
      rcases List.mem_cons.1 hy with rfl | hy
      · exact ⟨_, ht, he⟩
      · exact h3 y hy
theorem MapFn.noKey {es : List MapEntry} {f : List UInt8 → Option Value} (h2 : ∀ x ∈ es, ∃ s, x.key = .string (bs s) ∧ f s = some x.val) {s : List UInt8} (hs : f s = none) : ∀ x ∈ es, ∃ t : ByteArray, x.key = .string t ∧ bs s ≠ t := fun x hx => by
  obtain ⟨t, ht, hv⟩ := h2 x hx
  refine ⟨_, ht, fun e => ?_⟩
  rw [bs_inj e] at hs
  rw [hs] at hv; cases hv
section
variable {P : Program}
theorem run_lookup_fn {w : World} {t k e : TypeId} {b : Nat} {f : List UInt8 → Option Value} {z : Value} (ht : P.underlying t = some (.map k e)) (hk : P.underlying k = some .string) (hz : ∀ w, (zeroValue e).run P w = .ok z w) (h : MapFn w b f) (s : List UInt8) :
    (Instr.lookup t (.map (some b)) (.string (bs s)) false).run P w = .ok ((f s).getD z) w ∧ (Instr.lookup t (.map (some b)) (.string (bs s)) true).run P w = .ok (.tuple #[(f s).getD z, .bool (f s).isSome]) w := by
  obtain ⟨es, clk, h1, h2, h3, h4⟩ := h
  cases hs : f s with
  | none => exact run_lookup_no ht hk hz h1 (MapFn.noKey h2 hs)
  | some v =>
    obtain ⟨pre, ⟨key, val, n⟩, post, e1, e2, e3⟩ := first_key s es (fun x hx => (h2 x hx).imp fun t h => h.1) (h3 s v hs)
    obtain ⟨t', ht', hv⟩ := h2 ⟨key, val, n⟩ (by rw [e1]; simp)
    simp only at e2 ht' hv
    subst e2
    injection ht' with ht'
    have := bs_inj ht'
    subst this
    rw [hs] at hv
    injection hv with hv
    subst hv
    subst e1
    exact run_lookup_is ht hk h1 e3
theorem run_update_fn {w : World} {t k e : TypeId} {b : Nat} {f : List UInt8 → Option Value} (ht : P.underlying t = some (.map k e)) (hk : P.underlying k = some .string) (h : MapFn w b f) (s : List UInt8) (v : Value) :
    ∃ w', (Instr.mapUpdate t (.map (some b)) (.string (bs s)) v).run P w = .ok () w' ∧ MapFn w' b (updF f s v) ∧ Only (fun k => k = b) w w' ∧ w'.heap.size = w.heap.size := by
  obtain ⟨es, clk, h1, h2, h3, h4⟩ := h
  cases hs : f s with
  | none =>
    obtain ⟨w', r1, r2, r3, r4⟩ := run_insert_is v ht hk h1 (MapFn.noKey h2 hs)
    refine ⟨w', r1, ⟨_, _, r2, fun x hx => ?_, fun t v' hv => ?_, ?_⟩, r3, r4⟩
    · rcases List.mem_append.1 hx with hx | hx
      · obtain ⟨t, e1, e2⟩ := h2 x hx
        refine ⟨t, e1, ?_⟩
        unfold updF
        rw [if_neg (fun e => by rw [e, hs] at e2; cases e2)]
        exact e2
      · rw [List.mem_singleton] at hx
        subst hx
        exact ⟨s, rfl, if_pos rfl⟩
    · unfold updF at hv
      by_cases e : t = s
      · exact ⟨_, List.mem_append_right _ (List.mem_singleton.2 rfl), by rw [e]⟩
      · rw [if_neg e] at hv
        obtain ⟨x, hx, e1⟩ := h3 t v' hv
        exact ⟨x, List.mem_append_left _ hx, e1⟩
    · rw [List.map_append, List.nodup_append]
      refine ⟨h4, by simp, fun a ha b hb => ?_⟩
      obtain ⟨x, hx, rfl⟩ := List.mem_map.1 ha
      simp only [List.map_cons, List.map_nil, List.mem_singleton] at hb
      obtain ⟨t, ht, hn⟩ := MapFn.noKey h2 hs x hx
      rw [hb, ht]
      intro e
      injection e with e
      exact hn e.symm
  | some v0 =>
    obtain ⟨pre, ⟨key, val, n⟩, post, e1, e2, e3⟩ := first_key s es (fun x hx => (h2 x hx).imp fun t h => h.1) (h3 s v0 hs)
    simp only at e2
    subst e2
    subst e1
    unfold MapIs at h1
    have hb := (Array.getElem?_eq_some_iff.1 h1).1
    have hf := findNow_some (bs s) val n _ 0 pre post rfl e3
    have hfk := MapKept.run_findKey (P := P) (w := w) hk hf
    have hck : (Instr.checkKey false 10000 k (.string (bs s))).run P w = .ok () w := check_str w hk false (bs s) 9999
    have hst : (Instr.keyThatStays (.string (bs s)) (.string (bs s))).run P w = .ok (.string (bs s)) w := MapKept.run_keyThatStays (d := .string) trivial
    have hmod : ((pre ++ ⟨.string (bs s), val, n⟩ :: post).toArray.modify pre.length (fun e => { e with key := .string (bs s), val := v })) = (pre ++ ⟨.string (bs s), v, n⟩ :: post).toArray := by
      apply Array.ext_getElem?
      intro i
      rw [Array.getElem?_modify]
      by_cases hi : pre.length = i
      · subst hi; simp
      · rw [if_neg hi]
        simp only [List.getElem?_toArray]
        rcases Nat.lt_or_ge i pre.length with hl | hl
        · rw [List.getElem?_append_left hl, List.getElem?_append_left hl]
        · rw [List.getElem?_append_right hl, List.getElem?_append_right hl]
          obtain ⟨m, hm⟩ : ∃ m, i - pre.length = m + 1 := ⟨i - pre.length - 1, by omega⟩
          rw [hm]; rfl
    refine ⟨({ w with heap := w.heap.setIfInBounds b (.map (pre ++ ⟨.string (bs s), v, n⟩ :: post).toArray clk) } : World), ?_, ?_, ?_, by simp⟩
    · have hg : ((pre ++ ⟨.string (bs s), val, n⟩ :: post).toArray[0 + pre.length]?.map (·.key)).getD (.string (bs s)) = .string (bs s) := by simp
      simp only [Instr.mapUpdate, run_underlying ht, getObj, Sem.run_bind, Sem.run, h1, hck, hfk, Result.andThen]
      rw [hg, Nat.zero_add]
      simp only [hst, Result.andThen, setObj, Sem.run, h1]
      rw [hmod]
    · refine ⟨pre ++ ⟨.string (bs s), v, n⟩ :: post, clk, ?_, fun x hx => ?_, fun t v' hv => ?_, by simpa using h4⟩
      · unfold MapIs; simp [hb]
      · by_cases hx' : x = ⟨.string (bs s), v, n⟩
        · subst hx'; exact ⟨s, rfl, if_pos rfl⟩
        · have hx2 : x ∈ pre ++ ⟨.string (bs s), val, n⟩ :: post := by
            simp only [List.mem_append, List.mem_cons] at hx ⊢
            rcases hx with h | h | h
            · exact .inl h
            · exact absurd h hx'
            · exact .inr (.inr h)
          obtain ⟨t, e1, e2⟩ := h2 x hx2
          by_cases e : t = s
          · subst e
            simp only [List.mem_append, List.mem_cons] at hx
            rcases hx with h | h | h
            · obtain ⟨t2, ht2, hn2⟩ := e3 x h
              rw [ht2] at e1; injection e1 with e1; exact absurd e1.symm hn2
            · exact absurd h hx'
            · rw [List.map_append, List.map_cons, List.nodup_append] at h4
              exact absurd (List.mem_map.2 ⟨x, h, e1⟩) (List.nodup_cons.1 h4.2.1).1
          · exact ⟨t, e1, by unfold updF; rw [if_neg e]; exact e2⟩
      · by_cases e : t = s
        · exact ⟨_, List.mem_append_right _ (List.mem_cons_self ..), by rw [e]⟩
        · unfold updF at hv
          rw [if_neg e] at hv
          obtain ⟨x, hx, e1⟩ := h3 t v' hv
          simp only [List.mem_append, List.mem_cons] at hx
          rcases hx with h | h | h
          · exact ⟨x, by simp [h], e1⟩
          · subst h; injection e1 with e1; exact absurd (bs_inj e1).symm e
          · exact ⟨x, by simp [h], e1⟩
    · refine ⟨rfl, rfl, rfl, by simp, fun k hk hn => ?_⟩
      show (w.heap.setIfInBounds b _)[k]? = _
      rw [Array.getElem?_setIfInBounds, if_neg (fun e => hn e.symm)]
theorem oper_update {w : World} {Q : Exit → Act → World → Prop} {K : Act → World → Prop} {o : Oper} {a : Act} (m x v : Operand) (t : TypeId) (hop : o.op = Op.mapUpdate t m x v)
    {k e : TypeId} {b : Nat} {f : List UInt8 → Option Value} {s : List UInt8} {val : Value} (ht : P.underlying t = some (.map k e)) (hk : P.underlying k = some .string) (hm : a.eval m = .map (some b)) (hx : a.eval x = .string (bs s)) (hv : a.eval v = val)
    (h : MapFn w b f) (hK : ∀ w', MapFn w' b (updF f s val) → Only (fun k => k = b) w w' → w'.heap.size = w.heap.size → K (a.put o.dst undef) w') : o.wp P a w K Q := by
  obtain ⟨w', hrun, r1, r2, r3⟩ := run_update_fn ht hk h s val
  unfold Oper.wp
  simp [execOp, hop, hm, hx, hv, hrun, Result.andThen]
  exact hK w' r1 r2 r3
theorem oper_insert {w : World} {Q : Exit → Act → World → Prop} {K : Act → World → Prop} {o : Oper} {a : Act} (m x v : Operand) (t : TypeId) (hop : o.op = Op.insert t m x v)
    {k e : TypeId} {b : Nat} {f : List UInt8 → Option Value} {s : List UInt8} {val : Value} (ht : P.underlying t = some (.map k e)) (hk : P.underlying k = some .string) (hm : a.eval m = .map (some b)) (hx : a.eval x = .string (bs s)) (hv : a.eval v = val)
    (h : MapFn w b f) (hK : ∀ w', MapFn w' b (updF f s val) → Only (fun k => k = b) w w' → w'.heap.size = w.heap.size → K (a.put o.dst undef) w') : o.wp P a w K Q := by
  obtain ⟨w', hrun, r1, r2, r3⟩ := run_update_fn ht hk h s val
  unfold Oper.wp
  simp [execOp, hop, hm, hx, hv, hrun, Result.andThen]
  exact hK w' r1 r2 r3
theorem wpList_update {w : World} {ops : Array Oper} {rest : List Oper} {Q : Exit → Act → World → Prop} {o : Oper} {a : Act} (hg : o.guard = none) (m x v : Operand) (t : TypeId) (hop : o.op = Op.mapUpdate t m x v)
    {k e : TypeId} {b : Nat} {f : List UInt8 → Option Value} {s : List UInt8} {val : Value} (ht : P.underlying t = some (.map k e)) (hk : P.underlying k = some .string) (hm : a.eval m = .map (some b)) (hx : a.eval x = .string (bs s)) (hv : a.eval v = val)
    (h : MapFn w b f) (hK : ∀ w', MapFn w' b (updF f s val) → Only (fun k => k = b) w w' → w'.heap.size = w.heap.size → wpList P ops Q rest (a.put o.dst undef) w') : wpList P ops Q (o :: rest) a w :=
  wpList_plain hg fun _ hK' => oper_update m x v t hop ht hk hm hx hv h fun w' r1 r2 r3 => hK' _ _ (hK w' r1 r2 r3)
theorem wpList_insert {w : World} {ops : Array Oper} {rest : List Oper} {Q : Exit → Act → World → Prop} {o : Oper} {a : Act} (hg : o.guard = none) (m x v : Operand) (t : TypeId) (hop : o.op = Op.insert t m x v)
    {k e : TypeId} {b : Nat} {f : List UInt8 → Option Value} {s : List UInt8} {val : Value} (ht : P.underlying t = some (.map k e)) (hk : P.underlying k = some .string) (hm : a.eval m = .map (some b)) (hx : a.eval x = .string (bs s)) (hv : a.eval v = val)
    (h : MapFn w b f) (hK : ∀ w', MapFn w' b (updF f s val) → Only (fun k => k = b) w w' → w'.heap.size = w.heap.size → wpList P ops Q rest (a.put o.dst undef) w') : wpList P ops Q (o :: rest) a w :=
  wpList_plain hg fun _ hK' => oper_insert m x v t hop ht hk hm hx hv h fun w' r1 r2 r3 => hK' _ _ (hK w' r1 r2 r3)
end
end Go.Proofs.Ytmflopeedofkhaa

namespace Go.Proofs.Ytmflopeedofkhaa
set_option linter.unusedSimpArgs false
set_option linter.unusedVariables false
set_option maxRecDepth 100000
open Go.RowKit

section
variable {P : Program} {ops : Array Oper} {rest : List Oper} {o : Oper} {a : Act} {Q : Exit → Act → World → Prop} {w : World}
theorem wpList_range_is (hg : o.guard = none) (m : Operand) (t : TypeId) (hop : o.op = Op.range t m) {k e : TypeId} (ht : P.underlying t = some (.map k e)) {b clk : Nat} {es : List MapEntry} (hm : a.eval m = .map (some b)) (h : MapIs w b es clk)
    (hK : wpList P ops Q rest (a.put o.dst (.pointer (some ⟨w.heap.size, 0, none⟩))) (w.alloc (.mapIter (some b) clk #[] clk))) : wpList P ops Q (o :: rest) a w := by
  refine wpList_plain hg fun K' hK' => ?_
  have hrun := run_range_is (P := P) ht h
  unfold Oper.wp
  simp [execOp, hop, hm, hrun, Result.andThen]
  exact hK' _ _ hK
theorem wpList_next_is (hg : o.guard = none) (it : Operand) (hop : o.op = Op.next it false) {r b clk : Nat} {seen : Array Nat} {es : List MapEntry} (hit : a.eval it = .pointer (some ⟨r, 0, none⟩)) (hr : IterIs w r b clk seen) (hb : MapIs w b es clk) (hold : ∀ x ∈ es, x.born < clk)
    (hDone : (leftOf es.toArray seen).size = 0 → wpList P ops Q rest (a.put o.dst (.tuple #[.bool false])) w)
    (hMore : ∀ (e : MapEntry) (w' : World), e ∈ (leftOf es.toArray seen).toList → IterIs w' r b clk (seen.push e.born) → Only (fun k => k = r) w w' → w'.heap.size = w.heap.size → wpList P ops Q rest (a.put o.dst (.tuple #[.bool true, e.key, e.val])) w') : wpList P ops Q (o :: rest) a w := by
  refine wpList_plain hg fun K' hK' => ?_
  unfold Oper.wp
  rcases run_next_is (P := P) hr hb hold o.type with ⟨h0, hrun⟩ | ⟨e, he, w', hrun, r1, r2, r3⟩
  · simp [execOp, hop, hit, hrun, Result.andThen]
    exact hK' _ _ (hDone h0)
  · simp [execOp, hop, hit, hrun, Result.andThen]
    exact hK' _ _ (hMore e w' he r1 r2 r3)
theorem wpList_entry_is (hg : o.guard = none) (it : Operand) (hop : o.op = Op.entry it) {r b clk : Nat} {seen : Array Nat} {es : List MapEntry} {e : MapEntry} (hit : a.eval it = .pointer (some ⟨r, 0, none⟩)) (hr : IterIs w r b clk (seen.push e.born)) (hb : MapIs w b es clk) (he : e ∈ es) (hn : (es.map (·.born)).Nodup)
    (hK : wpList P ops Q rest (a.put o.dst (.tuple #[e.key, e.val])) w) : wpList P ops Q (o :: rest) a w := by
  refine wpList_plain hg fun K' hK' => ?_
  have hrun := run_entry_is (P := P) hr hb he hn
  unfold Oper.wp
  simp [execOp, hop, hit, hrun, Result.andThen]
  exact hK' _ _ hK
end
theorem born_one : ∀ {es : List MapEntry}, (es.map (·.born)).Nodup → ∀ {x y : MapEntry}, x ∈ es → y ∈ es → x.born = y.born → x = y
  | [], _, _, _, h, _, _ => by cases h
  | e :: es, hn, x, y, hx, hy, h => by
    rw [List.map_cons, List.nodup_cons] at hn
    rcases List.mem_cons.1 hx with hx1 | hx1
    · rcases List.mem_cons.1 hy with hy1 | hy1
      · exact hx1.trans hy1.symm
      · exact absurd (List.mem_map.2 ⟨y, hy1, by rw [← h, hx1]⟩) hn.1
    · rcases List.mem_cons.1 hy with hy1 | hy1
      · exact absurd (List.mem_map.2 ⟨x, hx1, by rw [h, hy1]⟩) hn.1
      · exact born_one hn.2 hx1 hy1 h
end Go.Proofs.Ytmflopeedofkhaa
