/- How data lie in memory: numbers, texts, slices of whatever, structs; kept by whatever leaves their blocks alone; opened from what comes in. No program in sight. -/
import Derived.Test.YtggcmnjllkncaaaBytes
import Derived.Deep.Slices
namespace Go.Proofs.Ytggcmnjllkncaaa
set_option linter.unusedSimpArgs false
set_option linter.unusedVariables false
set_option maxRecDepth 100000
open Go.RowKit

/-- How a datum lies in cells: 'fp': the blocks behind it. -/
structure Rep (α : Type) where
  size : Nat
  ok : World → (Nat → Prop) → α → List Value → Prop
  len : ∀ {w fp x cs}, ok w fp x cs → cs.length = size
  keep : ∀ {w w' fp x cs}, ok w fp x cs → (∀ b, fp b → b < w.heap.size → w'.heap[b]? = w.heap[b]?) → w.heap.size ≤ w'.heap.size → ok w' fp x cs
  mono : ∀ {w fp fp' x cs}, ok w fp x cs → (∀ b, fp b → b < w.heap.size → fp' b) → ok w fp' x cs

section
variable {α β : Type}

/-- 'the slice at ao reads as l' -/
def RdS (R : Rep α) (fp : Nat → Prop) (w : World) (ao : Option Addr) (l : List α) : Prop :=
  l = [] ∨ ∃ b off, ao = some ⟨b, off, none⟩ ∧ fp b ∧ b < w.heap.size ∧
    ∀ j x, l[j]? = some x → ∃ cs, R.ok w fp x cs ∧ ∀ i, i < R.size → w.cell? ⟨b, off + j * R.size + i, none⟩ = cs[i]?

theorem RdS.keep {R : Rep α} {fp : Nat → Prop} {w w' : World} {ao : Option Addr} {l : List α} (h : RdS R fp w ao l) (hk : ∀ b, fp b → b < w.heap.size → w'.heap[b]? = w.heap[b]?) (hs : w.heap.size ≤ w'.heap.size) : RdS R fp w' ao l := by
  rcases h with h | ⟨b, off, h1, h2, h3, h4⟩
  · exact .inl h
  · refine .inr ⟨b, off, h1, h2, Nat.lt_of_lt_of_le h3 hs, fun j x hx => ?_⟩
    obtain ⟨cs, h5, h6⟩ := h4 j x hx
    exact ⟨cs, R.keep h5 hk hs, fun i hi => (World.cell?_of_block (w := w) (hk b h2 h3)).trans (h6 i hi)⟩
theorem RdS.mono {R : Rep α} {fp fp' : Nat → Prop} {w : World} {ao : Option Addr} {l : List α} (h : RdS R fp w ao l) (hm : ∀ b, fp b → b < w.heap.size → fp' b) : RdS R fp' w ao l := by
  rcases h with h | ⟨b, off, h1, h2, h3, h4⟩
  · exact .inl h
  · refine .inr ⟨b, off, h1, hm b h2 h3, h3, fun j x hx => ?_⟩
    obtain ⟨cs, h5, h6⟩ := h4 j x hx
    exact ⟨cs, R.mono h5 hm, h6⟩
theorem RdS.only {R : Rep α} {fp gp : Nat → Prop} {w w' : World} {ao : Option Addr} {l : List α} (h : RdS R fp w ao l) (ho : Only gp w w') (hn : ∀ b, fp b → b < w.heap.size → ¬ gp b) : RdS R fp w' ao l :=
  h.keep (fun b hb hl => ho.same b hl (hn b hb hl)) ho.size
theorem RdS.ext {R : Rep α} {fp : Nat → Prop} {w w' : World} {ao : Option Addr} {l : List α} (h : RdS R fp w ao l) (hB : Below w.heap.size w w') : RdS R fp w' ao l :=
  h.keep (fun b _ hl => hB.block b hl) hB.size
theorem RdS.stays {R : Rep α} {fp gp : Nat → Prop} {w w' : World} {ao : Option Addr} {l : List α} (h : RdS R fp w ao l) (hs : Stays gp w w') (hm : ∀ b, fp b → b < w.heap.size → gp b) : RdS R fp w' ao l :=
  h.keep (fun b hb hl => hs.same b (hm b hb hl)) hs.size
theorem RdS.below {R : Rep α} {fp : Nat → Prop} {w w' : World} {ao : Option Addr} {l : List α} {n : Nat} (h : RdS R fp w ao l) (hB : Below n w w') (hn : ∀ b, fp b → b < n) : RdS R fp w' ao l :=
  h.keep (fun b hb _ => hB.block b (hn b hb)) hB.size
theorem RdS.at {R : Rep α} {fp : Nat → Prop} {w : World} {ao : Option Addr} {l : List α} (h : RdS R fp w ao l) (j : Nat) (hj : j < l.length) :
    ∃ b off cs, ao = some ⟨b, off, none⟩ ∧ fp b ∧ b < w.heap.size ∧ R.ok w fp l[j] cs ∧ ∀ i, i < R.size → w.cell? ⟨b, off + j * R.size + i, none⟩ = cs[i]? := by
  rcases h with h | ⟨b, off, h1, h2, h3, h4⟩
  · subst h; simp at hj
  · obtain ⟨cs, h5, h6⟩ := h4 j l[j] (List.getElem?_eq_getElem hj)
    exact ⟨b, off, cs, h1, h2, h3, h5, h6⟩
theorem RdS.nil (R : Rep α) (fp : Nat → Prop) (w : World) (ao : Option Addr) : RdS R fp w ao [] := .inl rfl
theorem RdS.take {R : Rep α} {fp : Nat → Prop} {w : World} {ao : Option Addr} {l : List α} (h : RdS R fp w ao l) (k : Nat) : RdS R fp w ao (l.take k) := by
  rcases h with h | ⟨b, off, h1, h2, h3, h4⟩
  · subst h; exact .inl (by simp)
  · exact .inr ⟨b, off, h1, h2, h3, fun j x hx => h4 j x (by
      rw [List.getElem?_take] at hx
      split at hx
      · exact hx
      · cases hx)⟩
theorem RdS.drop {R : Rep α} {fp : Nat → Prop} {w : World} {b off : Nat} {l : List α} (h : RdS R fp w (some ⟨b, off, none⟩) l) (k : Nat) : RdS R fp w (some ⟨b, off + k * R.size, none⟩) (l.drop k) := by
  rcases h with h | ⟨b', off', h1, h2, h3, h4⟩
  · subst h; exact .inl (by simp)
  · cases h1
    refine .inr ⟨b, _, rfl, h2, h3, fun j x hx => ?_⟩
    rw [List.getElem?_drop] at hx
    obtain ⟨cs, h5, h6⟩ := h4 (k + j) x hx
    exact ⟨cs, h5, fun i hi => by rw [← h6 i hi]; congr 2; rw [Nat.add_mul]; omega⟩

/-! ### the kinds of data -/
def Rep.nat (k : IntKind) (bound : Nat) : Rep Nat where
  size := 1
  ok _ _ x cs := cs = [.int k x] ∧ x < bound
  len h := by rw [h.1]; rfl
  keep h _ _ := h
  mono h _ := h
def Rep.u8 : Rep UInt8 where
  size := 1
  ok _ _ x cs := cs = [.int .u8 x.toNat]
  len h := by rw [h]; rfl
  keep h _ _ := h
  mono h _ := h
def Rep.str : Rep (List UInt8) where
  size := 1
  ok _ _ x cs := cs = [.string (bs x)] ∧ x.length ≤ maxLen
  len h := by rw [h.1]; rfl
  keep h _ _ := h
  mono h _ := h
abbrev Rep.u32 : Rep Nat := Rep.nat .u32 4294967296
abbrev Rep.u64 : Rep Nat := Rep.nat .u64 18446744073709551616
def Rep.slice (R : Rep α) : Rep (List α) where
  size := 1
  ok w fp l cs := ∃ ao cap, cs = [.slice ao l.length cap] ∧ l.length ≤ cap ∧ cap ≤ maxLen ∧ RdS R fp w ao l
  len := by rintro w fp x cs ⟨ao, cap, rfl, _⟩; rfl
  keep := by rintro w w' fp x cs ⟨ao, cap, h, h1, h2, h3⟩ hk hs; exact ⟨ao, cap, h, h1, h2, h3.keep hk hs⟩
  mono := by rintro w fp fp' x cs ⟨ao, cap, h, h1, h2, h3⟩ hm; exact ⟨ao, cap, h, h1, h2, h3.mono hm⟩
def Rep.prod (R : Rep α) (S : Rep β) : Rep (α × β) where
  size := R.size + S.size
  ok w fp x cs := ∃ c d, cs = c ++ d ∧ R.ok w fp x.1 c ∧ S.ok w fp x.2 d
  len := by rintro w fp x cs ⟨c, d, rfl, h1, h2⟩; rw [List.length_append, R.len h1, S.len h2]
  keep := by rintro w w' fp x cs ⟨c, d, h, h1, h2⟩ hk hs; exact ⟨c, d, h, R.keep h1 hk hs, S.keep h2 hk hs⟩
  mono := by rintro w fp fp' x cs ⟨c, d, h, h1, h2⟩ hm; exact ⟨c, d, h, R.mono h1 hm, S.mono h2 hm⟩
def Rep.unit : Rep Unit where
  size := 0
  ok _ _ _ cs := cs = []
  len h := by rw [h]; rfl
  keep h _ _ := h
  mono h _ := h
def Rep.map (R : Rep α) (f : α → β) : Rep β where
  size := R.size
  ok w fp y cs := ∃ x, f x = y ∧ R.ok w fp x cs
  len := by rintro w fp x cs ⟨y, rfl, h⟩; exact R.len h
  keep := by rintro w w' fp x cs ⟨y, rfl, h⟩ hk hs; exact ⟨y, rfl, R.keep h hk hs⟩
  mono := by rintro w fp fp' x cs ⟨y, rfl, h⟩ hm; exact ⟨y, rfl, R.mono h hm⟩
end

/-- one relation, element by element -/
inductive All2 {α β : Type} (p : α → β → Prop) : List α → List β → Prop
  | nil : All2 p [] []
  | cons {a : α} {b : β} {l : List α} {m : List β} (h1 : p a b) (h2 : All2 p l m) : All2 p (a :: l) (b :: m)
/-! ### slices of whatever that a call owns -/
section
variable {α : Type} {R : Rep α} {fp : Nat → Prop} {w w' : World} {ao : Option Addr} {cap : Nat} {g : Option Nat} {e : TypeId} {l : List α}
/-- 'the slice is the call's own (block g) and reads as l; what lies behind its elements is in fp' -/
def OwnS (R : Rep α) (fp : Nat → Prop) (w : World) (ao : Option Addr) (cap : Nat) (g : Option Nat) (e : TypeId) (l : List α) : Prop :=
  ∃ css, Own w ao cap g e R.size l.length css.flatten ∧ All2 (fun x cs => R.ok w fp x cs) l css

theorem forall2_imp {α β : Type} {p q : α → β → Prop} (h : ∀ a b, p a b → q a b) : ∀ {l : List α} {m : List β}, All2 p l m → All2 q l m
  | _, _, .nil => .nil
  | _, _, .cons h1 h2 => .cons (h _ _ h1) (forall2_imp h h2)
theorem OwnS.nil (R : Rep α) (fp : Nat → Prop) (w : World) (e : TypeId) : OwnS R fp w none 0 none e [] := ⟨[], Own.nil w e R.size, .nil⟩
theorem OwnS.keep (h : OwnS R fp w ao cap g e l) (hk : ∀ b, (fp b ∨ g = some b) → b < w.heap.size → w'.heap[b]? = w.heap[b]?) (hs : w.heap.size ≤ w'.heap.size) : OwnS R fp w' ao cap g e l := by
  obtain ⟨css, h1, h2⟩ := h
  exact ⟨css, h1.keep (fun b hb => hk b (.inr hb) (h1.lt b hb)), forall2_imp (fun x cs h => R.keep h (fun b hb hl => hk b (.inl hb) hl) hs) h2⟩
theorem OwnS.mono {fp' : Nat → Prop} (h : OwnS R fp w ao cap g e l) (hm : ∀ b, fp b → b < w.heap.size → fp' b) : OwnS R fp' w ao cap g e l := by
  obtain ⟨css, h1, h2⟩ := h
  exact ⟨css, h1, forall2_imp (fun x cs h => R.mono h hm) h2⟩
theorem OwnS.only {gp : Nat → Prop} (h : OwnS R fp w ao cap g e l) (ho : Only gp w w') (hn : ∀ b, (fp b ∨ g = some b) → b < w.heap.size → ¬ gp b) : OwnS R fp w' ao cap g e l :=
  h.keep (fun b hb hl => ho.same b hl (hn b hb hl)) ho.size
theorem OwnS.stays {gp : Nat → Prop} (h : OwnS R fp w ao cap g e l) (hs : Stays gp w w') (hm : ∀ b, (fp b ∨ g = some b) → b < w.heap.size → gp b) : OwnS R fp w' ao cap g e l :=
  h.keep (fun b hb hl => hs.same b (hm b hb hl)) hs.size
theorem OwnS.ext (h : OwnS R fp w ao cap g e l) (hB : Below w.heap.size w w') : OwnS R fp w' ao cap g e l := h.keep (fun b _ hl => hB.block b hl) hB.size
theorem OwnS.lt (h : OwnS R fp w ao cap g e l) : ∀ b, g = some b → b < w.heap.size := by obtain ⟨css, h1, _⟩ := h; exact h1.lt
theorem OwnS.capLe (h : OwnS R fp w ao cap g e l) : l.length ≤ cap ∧ cap ≤ maxLen := by obtain ⟨css, h1, _⟩ := h; exact h1.capLe
theorem OwnS.own (h : OwnS R fp w ao cap g e l) : ∃ css, Own w ao cap g e R.size l.length css.flatten ∧ All2 (fun x cs => R.ok w fp x cs) l css := h
theorem OwnS.snoc {css : List (List Value)} (hf : All2 (fun x cs => R.ok w fp x cs) l css) {x : α} {cs : List Value} (hx : R.ok w' fp x cs) (ho : Own w' ao cap g e R.size (l.length + 1) (css.flatten ++ cs))
    (hk : ∀ b, fp b → b < w.heap.size → w'.heap[b]? = w.heap[b]?) (hs : w.heap.size ≤ w'.heap.size) : OwnS R fp w' ao cap g e (l ++ [x]) := by
  refine ⟨css ++ [cs], by simpa using ho, ?_⟩
  have h1 := forall2_imp (q := fun x cs => R.ok w' fp x cs) (fun x cs h => R.keep h hk hs) hf
  clear ho hf
  induction h1 with
  | nil => exact .cons hx .nil
  | cons a b ih => exact .cons a ih
theorem flatten_chunk (R : Rep α) (fp : Nat → Prop) (w : World) : ∀ {l : List α} {css : List (List Value)}, All2 (fun x cs => R.ok w fp x cs) l css → ∀ j x, l[j]? = some x → ∃ cs, R.ok w fp x cs ∧ ∀ i, i < R.size → css.flatten[j * R.size + i]? = cs[i]?
  | _, _, .nil, j, x, h => by simp at h
  | y :: l, d :: css, .cons h1 h2, 0, x, h => by
    simp only [List.getElem?_cons_zero, Option.some.injEq] at h
    subst h
    exact ⟨d, h1, fun i hi => by rw [List.flatten_cons, Nat.zero_mul, Nat.zero_add, List.getElem?_append_left (by rw [R.len h1]; exact hi)]⟩
  | y :: l, d :: css, .cons h1 h2, j + 1, x, h => by
    rw [List.getElem?_cons_succ] at h
    obtain ⟨cs, h3, h4⟩ := flatten_chunk R fp w h2 j x h
    refine ⟨cs, h3, fun i hi => ?_⟩
    rw [List.flatten_cons, List.getElem?_append_right (by rw [R.len h1, Nat.add_mul]; omega), R.len h1, show (j + 1) * R.size + i - R.size = j * R.size + i from by rw [Nat.add_mul]; omega]
    exact h4 i hi
/-- what is owned reads -/
theorem OwnS.rd (h : OwnS R fp w ao cap g e l) : RdS R (fun b => fp b ∨ g = some b) w ao l := by
  obtain ⟨css, h1, h2⟩ := h
  rcases h1.addr with ⟨_, _, h0, _⟩ | ⟨b, hg, ha, hb⟩
  · exact .inl (List.eq_nil_of_length_eq_zero h0)
  · subst ha
    refine .inr ⟨b, 0, rfl, .inr hg, hb, fun j x hx => ?_⟩
    obtain ⟨cs, h3, h4⟩ := flatten_chunk R fp w h2 j x hx
    refine ⟨cs, R.mono h3 (fun b hb _ => .inl hb), fun i hi => ?_⟩
    have hj := (List.getElem?_eq_some_iff.1 hx).1
    rw [Nat.zero_add, h1.cell _ (by
      have h5 : (j + 1) * R.size ≤ l.length * R.size := Nat.mul_le_mul_right _ hj
      rw [Nat.add_mul] at h5
      omega), h4 i hi]
end

/-- a new block that holds the elements' cells -/
theorem RdS.new {α : Type} {R : Rep α} {fp : Nat → Prop} {w : World} {l : List α} {css : List (List Value)} {cs : Array Value} {t : TypeId} (h : All2 (fun x cs => R.ok w fp x cs) l css) (hf : css.flatten = cs.toList) (n : Nat) (hn : n = w.heap.size) :
    RdS R (fun b => fp b ∨ b = n) (w.alloc (.cells cs t)) (some ⟨n, 0, none⟩) l := by
  subst hn
  refine .inr ⟨w.heap.size, 0, rfl, .inr rfl, by simp, fun j x hx => ?_⟩
  obtain ⟨cs', h3, h4⟩ := flatten_chunk R fp w h j x hx
  refine ⟨cs', R.mono (R.keep h3 (fun b _ hl => (ext_alloc w _).block b hl) (ext_alloc w _).size) (fun b hb _ => .inl hb), fun i hi => ?_⟩
  rw [Nat.zero_add, World.cell?_alloc_new, ← h4 i hi, hf]
  simp
theorem rdS_u8 {w : World} {ao : Option Addr} {cap : Nat} {g : Option Nat} {e : TypeId} {l : List UInt8} (h : Own w ao cap g e 1 l.length (byteVals l)) : RdS Rep.u8 (fun k => g = some k) w ao l := by
  rcases h.addr with ⟨_, _, h0, _⟩ | ⟨b, hg, ha, hb⟩
  · exact .inl (List.eq_nil_of_length_eq_zero h0)
  · subst ha
    refine .inr ⟨b, 0, rfl, hg, hb, fun j x hx => ⟨[.int .u8 x.toNat], rfl, fun i hi => ?_⟩⟩
    have hi0 : i = 0 := by simp [Rep.u8] at hi; exact hi
    subst hi0
    have hj := (List.getElem?_eq_some_iff.1 hx).1
    simp only [Rep.u8, Nat.mul_one, Nat.add_zero, Nat.zero_add]
    rw [h.cell j (by omega)]
    simp [byteVals, hx]
/-! ### an element is set anew -/
section
variable {α : Type} {R : Rep α} {fp : Nat → Prop} {w : World} {cap : Nat} {e : TypeId}
theorem setsAt_drop : ∀ (vs : List Value) (o : Nat) (cur : Array Value), o + vs.length ≤ cur.size → (setsAt cur o vs).toList = cur.toList.take o ++ vs ++ cur.toList.drop (o + vs.length)
  | [], o, cur, _ => by simp [setsAt]
  | v :: r, o, cur, h => by
    simp only [List.length_cons] at h ⊢
    have ih := setsAt_drop r (o + 1) (cur.setIfInBounds o v) (by simp; omega)
    rw [setsAt, ih, Array.toList_setIfInBounds]
    have ho : o < cur.toList.length := by simp; omega
    rw [List.take_succ_eq_append_getElem (by rw [List.length_set]; exact ho), List.take_set_of_le (Nat.le_refl _), List.drop_set_of_lt (by omega)]
    simp [Nat.add_assoc, Nat.add_comm 1]
theorem all2_append {α β : Type} {p : α → β → Prop} : ∀ {l l' : List α} {m m' : List β}, All2 p l m → All2 p l' m' → All2 p (l ++ l') (m ++ m')
  | _, _, _, _, .nil, h => h
  | _, _, _, _, .cons h1 h2, h => .cons h1 (all2_append h2 h)
theorem all2_snoc {α β : Type} {p : α → β → Prop} : ∀ {l : List α} {x : α} {m : List β}, All2 p (l ++ [x]) m → ∃ m' y, m = m' ++ [y] ∧ All2 p l m' ∧ p x y
  | [], x, _, .cons h1 .nil => ⟨[], _, rfl, .nil, h1⟩
  | z :: l, x, _, .cons h1 h2 => by
    obtain ⟨m', y, rfl, h3, h4⟩ := all2_snoc h2
    exact ⟨_ :: m', y, rfl, .cons h1 h3, h4⟩
theorem all2_len {R : Rep α} {fp : Nat → Prop} {w : World} : ∀ {l : List α} {css : List (List Value)}, All2 (fun x cs => R.ok w fp x cs) l css → css.flatten.length = l.length * R.size
  | _, _, .nil => by simp
  | _ :: l, _, .cons h1 h2 => by rw [List.flatten_cons, List.length_append, R.len h1, all2_len h2, List.length_cons, Nat.add_mul]; omega
/-- the last element -/
theorem OwnS.setLast {b : Nat} {l : List α} {x y : α} (h : OwnS R fp w (some ⟨b, 0, none⟩) cap (some b) e (l ++ [x])) {cs : List Value} (hy : R.ok w fp y cs) (hf : ¬ fp b) : OwnS R fp (w.setCells b (l.length * R.size) cs) (some ⟨b, 0, none⟩) cap (some b) e (l ++ [y]) := by
  obtain ⟨css, ho, ha⟩ := h
  obtain ⟨m, z, rfl, h1, h2⟩ := all2_snoc ha
  have hl1 := all2_len h1
  have hk : ∀ k, fp k → k < w.heap.size → (w.setCells b (l.length * R.size) cs).heap[k]? = w.heap[k]? := fun k hk hl => (only_setCells b cs _ w).same k hl (fun e => hf (e ▸ hk))
  refine ⟨m ++ [cs], ?_, all2_append (forall2_imp (fun x ds h => R.keep h hk (only_setCells b cs _ w).size) h1) (.cons (R.keep hy hk (only_setCells b cs _ w).size) .nil)⟩
  have hlen := ho.1
  obtain ⟨_, h3⟩ := ho
  rcases h3 with ⟨h4, _⟩ | ⟨b', cur, hg, ha', hh, hn, hc, hs, ht⟩
  · cases h4
  · cases hg
    have hlz := R.len h2
    have hlc := R.len hy
    refine ⟨by simp [hl1, hlc, Nat.add_mul], .inr ⟨b, setsAt cur (l.length * R.size) cs, rfl, rfl, heap_setCells_in b e (0, 0) cs _ w cur hh, by simpa using hn, hc, by rw [setsAt_size, hs], ?_⟩⟩
    have hroom : l.length * R.size + cs.length ≤ cur.size := by
      rw [hs, hlc]
      have : (l.length + 1) * R.size ≤ cap * R.size := Nat.mul_le_mul_right _ (by simpa using hn)
      rw [Nat.add_mul] at this; omega
    have e1 : (l ++ [y]).length * R.size = l.length * R.size + cs.length := by rw [hlc]; simp [Nat.add_mul]
    have h5 := setsAt_take cs (l.length * R.size) cur hroom
    rw [e1, h5]
    have h6 : cur.toList.take (l.length * R.size) = m.flatten := by
      have e2 : (l ++ [x]).length * R.size = l.length * R.size + R.size := by simp [Nat.add_mul]
      rw [e2] at ht
      have h7 := congrArg (List.take (l.length * R.size)) ht
      rw [List.take_take, Nat.min_eq_left (by omega), List.flatten_append, ← hl1, List.take_left] at h7
      rw [← hl1]; exact h7
    rw [h6]
    simp
end

/-! ### what comes in -/
/-- 'what reads at type t lies as R says' -/
def Opens {α : Type} (P : Program) (R : Rep α) (t : TypeId) : Prop :=
  P.cellsOf t = R.size ∧ ∀ {H : Type} {enc : TypeId × Value → H} {w : World} {base : Nat} {spare : Nat → Bool} {held : Bool} {fuel : Nat} {cs : List Value} {x : DataW H × List MemPlace},
    DataW.trod enc P w base spare held fuel t cs = some x → ∃ a : α, R.ok w (fun _ => True) a cs
section
variable {α β : Type} {P : Program} {t : TypeId}
theorem opens_nat {k : IntKind} {bound : Nat} (ht : P.underlying t = some (.int k)) (hc : P.cellsOf t = 1) (hk : ∀ n : Int, (Lit.int k n).wf = true → 0 ≤ n ∧ n < bound) : Opens P (Rep.nat k bound) t := by
  refine ⟨hc, fun h => ?_⟩
  obtain ⟨n, rfl, _, hw⟩ := DataW.trod_int ht h
  have h1 := hk n hw
  exact ⟨n.toNat, by rw [Int.toNat_of_nonneg h1.1], by omega⟩
theorem opens_u32 (ht : P.underlying t = some (.int .u32)) (hc : P.cellsOf t = 1) : Opens P Rep.u32 t :=
  opens_nat ht hc (fun n h => by simp [Lit.wf, IntKind.min, IntKind.max, IntKind.signed, IntKind.bits] at h; omega)
theorem opens_u64 (ht : P.underlying t = some (.int .u64)) (hc : P.cellsOf t = 1) : Opens P Rep.u64 t :=
  opens_nat ht hc (fun n h => by simp [Lit.wf, IntKind.min, IntKind.max, IntKind.signed, IntKind.bits] at h; omega)
theorem opens_u8 (ht : P.underlying t = some (.int .u8)) (hc : P.cellsOf t = 1) : Opens P Rep.u8 t := by
  refine ⟨hc, fun h => ?_⟩
  obtain ⟨n, rfl, _, hw⟩ := DataW.trod_int ht h
  simp [Lit.wf, IntKind.min, IntKind.max, IntKind.signed, IntKind.bits] at hw
  refine ⟨UInt8.ofNat n.toNat, ?_⟩
  show [Value.int .u8 n] = [Value.int .u8 ((UInt8.ofNat n.toNat).toNat : Int)]
  congr 2
  simp only [UInt8.toNat_ofNat']
  omega
theorem opens_str (ht : P.underlying t = some .string) (hc : P.cellsOf t = 1) : Opens P Rep.str t := by
  refine ⟨hc, fun h => ?_⟩
  obtain ⟨s, rfl, _, hs⟩ := DataW.trod_string ht h
  exact ⟨s.data.toList, by rw [bs_of s], by simpa using hs⟩
theorem opens_list {R : Rep α} {P : World → List Value → Prop} {n : Nat} (f : Nat → α → Prop) (h : ∀ i, i < n → ∃ a, f i a) : ∃ l : List α, l.length = n ∧ ∀ i a, l[i]? = some a → f i a := by
  induction n with
  | zero => exact ⟨[], rfl, fun i a h => by simp at h⟩
  | succ n ih =>
    obtain ⟨l, h1, h2⟩ := ih (fun i hi => h i (by omega))
    obtain ⟨a, ha⟩ := h n (by omega)
    refine ⟨l ++ [a], by simp [h1], fun i x hx => ?_⟩
    by_cases hi : i < l.length
    · rw [List.getElem?_append_left hi] at hx; exact h2 i x hx
    · have := (List.getElem?_eq_some_iff.1 hx).1
      obtain rfl : i = l.length := by simp at this; omega
      simp at hx
      subst hx; rw [h1]; exact ha
theorem opens_slice {R : Rep α} {e : TypeId} (ht : P.underlying t = some (.slice e)) (hc : P.cellsOf t = 1) (hpos : 0 < R.size) (he : Opens P R e) : Opens P (Rep.slice R) t := by
  refine ⟨hc, fun {H enc w base spare held fuel cs x} h => ?_⟩
  rcases Go.Deep.open_slice ht h with ⟨rfl, _⟩ | ⟨a, len, cap, m, n, D, Pl, rfl, hb, hl, hm, hmm, _, hx⟩
  · exact ⟨[], none, 0, rfl, Nat.le_refl _, by simp [maxLen], .inl rfl⟩
  · have hlm : len ≤ m := by rw [hmm]; split <;> omega
    rw [he.1] at hx
    obtain ⟨l, h1, h2⟩ := opens_list (R := R) (P := fun _ _ => True) (n := len) (fun i x => ∃ cs, R.ok w (fun _ => True) x cs ∧ ∀ k, k < R.size → w.cell? ((a.add (i * R.size)).add k) = cs[k]?) (fun i hi => by
      obtain ⟨cs', h3, h4⟩ := hx i (by omega)
      obtain ⟨y, hy⟩ := he.2 h4
      obtain ⟨_, _, h6⟩ := World.cells?_some h3
      exact ⟨y, cs', hy, h6⟩)
    refine ⟨l, some a, cap, by rw [h1], by omega, hm, ?_⟩
    rcases Nat.eq_zero_or_pos len with h0 | hpos'
    · exact .inl (List.eq_nil_of_length_eq_zero (by omega))
    · have h0 := h2 0 l[0] (List.getElem?_eq_getElem (by omega))
      obtain ⟨cs, h3, h4⟩ := h0
      have h5 := h4 0 hpos
      have h6 : 0 < cs.length := by rw [R.len h3]; exact hpos
      rw [List.getElem?_eq_getElem h6] at h5
      obtain ⟨ab, ao, spot⟩ := a
      have hspot : spot = none := by simpa [Addr.add] using World.cell?_spot h5
      subst hspot
      have hblk := World.block_lt_of_cell? w _ h5
      simp only [Addr.add_lit] at hblk
      refine .inr ⟨ab, ao, rfl, trivial, hblk, fun j x hx => ?_⟩
      obtain ⟨cs, h7, h8⟩ := h2 j x hx
      refine ⟨cs, h7, fun i hi => ?_⟩
      have h9 := h8 i hi
      rwa [Addr.add_lit, Addr.add_lit] at h9
/-- fields, one behind the other -/
inductive OpensF (P : Program) : {α : Type} → Rep α → List Field → Nat → Prop
  | nil {o : Nat} : OpensF P Rep.unit [] o
  | cons {α β : Type} {R : Rep α} {S : Rep β} {f : Field} {fs : List Field} {o : Nat} (h1 : f.offset = o) (h2 : Opens P R f.type) (h3 : OpensF P S fs (o + R.size)) : OpensF P (R.prod S) (f :: fs) o
theorem opensF_read {fs : List Field} {R : Rep α} {o : Nat} (h : OpensF P R fs o) : ∀ {H : Type} {enc : TypeId × Value → H} {w : World} {base : Nat} {spare : Nat → Bool} {held : Bool} {n : Nat} {cs : List Value},
    cs.length = o + R.size → (∀ f ∈ fs, ∃ x : DataW H × List MemPlace, DataW.trod enc P w base spare held n f.type ((cs.drop f.offset).take (P.cellsOf f.type)) = some x) → ∃ a : α, R.ok w (fun _ => True) a (cs.drop o) := by
  induction h with
  | nil => exact fun hl _ => ⟨(), List.drop_eq_nil_of_le (by rw [hl]; exact Nat.le_refl _)⟩
  | @cons α β R S f fs o h1 h2 h3 ih =>
    intro H enc w base spare held n cs hl hf
    have hl' : cs.length = o + R.size + S.size := by rw [hl]; show o + (R.size + S.size) = _; omega
    obtain ⟨x, hx⟩ := hf f (by simp)
    obtain ⟨a, ha⟩ := h2.2 hx
    obtain ⟨b, hb⟩ := ih (enc := enc) (w := w) (base := base) (spare := spare) (held := held) (n := n) hl' (fun g hg => hf g (by simp [hg]))
    refine ⟨(a, b), (cs.drop o).take R.size, cs.drop (o + R.size), ?_, ?_, hb⟩
    · rw [← List.drop_drop, List.take_append_drop]
    · rw [h1, h2.1] at ha; exact ha
theorem opens_struct {R : Rep α} {fs : Array Field} (ht : P.underlying t = some (.struct fs)) (hc : P.cellsOf t = R.size) (hf : OpensF P R fs.toList 0) : Opens P R t := by
  refine ⟨hc, fun h => ?_⟩
  obtain ⟨xs, n, _, _, hl, hxl, hx⟩ := DataW.trod_struct ht h
  obtain ⟨a, ha⟩ := opensF_read hf (n := n) (cs := _) (by rw [hl, hc, Nat.zero_add]) (fun f hf => by
    obtain ⟨i, hi, rfl⟩ := List.getElem_of_mem hf
    have h1 := hx i fs.toList[i] (by simp at hi; simp [hi])
    rw [List.getElem?_eq_getElem (by simp at hi; omega)] at h1
    exact ⟨_, h1⟩)
  exact ⟨a, by simpa using ha⟩
theorem opens_map {R : Rep α} (f : α → β) (h : Opens P R t) : Opens P (R.map f) t := ⟨h.1, fun hx => by obtain ⟨a, ha⟩ := h.2 hx; exact ⟨f a, a, rfl, ha⟩⟩
end
/-- a slice among the arguments -/
theorem open_slice_arg {H : Type} {enc : TypeId × Value → H} {P : Program} {α : Type} {R : Rep α} {W : World} {base : Nat} {t e : TypeId} {v : Value} {d : DataW H} {p : List MemPlace} (ho : Opens P (Rep.slice R) t) (ht : P.underlying t = some (.slice e))
    (hval : Value.okWide P W .any base t v) (h : DataW.Trod enc P W 0 (fun _ => true) true t v d p) :
    ∃ ao cap l, v = .slice ao l.length cap ∧ l.length ≤ cap ∧ cap ≤ maxLen ∧ RdS R (fun b => b < W.heap.size) W ao l := by
  obtain ⟨a1, len, cap, rfl⟩ := Go.WideShapes.okWide_slice ht hval
  obtain ⟨fuel, hf⟩ := h
  obtain ⟨l, ao, cap', hcs, h1, h2, h3⟩ := ho.2 hf
  simp only [Value.cells, List.cons.injEq, and_true] at hcs
  obtain ⟨rfl, rfl, rfl⟩ : a1 = ao ∧ len = l.length ∧ cap = cap' := by simpa using hcs
  exact ⟨a1, cap, l, rfl, h1, h2, h3.mono (fun b _ hb => hb)⟩
theorem RdS.rdStr {fp : Nat → Prop} {w : World} {ao : Option Addr} {l : List (List UInt8)} (h : RdS Rep.str fp w ao l) : Rd w ao l.length (strCells l) := by
  refine ⟨by simp [strCells], ?_⟩
  rcases h with h | ⟨b, off, h1, h2, h3, h4⟩
  · subst h; exact .inl rfl
  · refine .inr ⟨b, off, h1, h3, fun j hj => ?_⟩
    obtain ⟨cs, ⟨rfl, _⟩, h6⟩ := h4 j l[j] (List.getElem?_eq_getElem hj)
    have h7 := h6 0 Nat.one_pos
    simp only [Rep.str, Nat.mul_one, Nat.add_zero] at h7
    rw [h7]
    simp [strCells, hj]
theorem RdS.rdU8 {fp : Nat → Prop} {w : World} {ao : Option Addr} {l : List UInt8} (h : RdS Rep.u8 fp w ao l) : Rd w ao l.length (byteVals l) := by
  refine ⟨by simp [byteVals], ?_⟩
  rcases h with h | ⟨b, off, h1, h2, h3, h4⟩
  · subst h; exact .inl rfl
  · refine .inr ⟨b, off, h1, h3, fun j hj => ?_⟩
    obtain ⟨cs, rfl, h6⟩ := h4 j l[j] (List.getElem?_eq_getElem hj)
    have h7 := h6 0 Nat.one_pos
    simp only [Rep.u8, Nat.mul_one, Nat.add_zero] at h7
    rw [h7]
    simp [byteVals, hj]
end Go.Proofs.Ytggcmnjllkncaaa
