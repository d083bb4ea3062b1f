/- Texts merged into one: StepPlain, AliasT, AliasT2, AliasT3, KeyPlain. -/
import Derived.Test.YtcklfffeimnfeaaGreatBx01
import Derived.Test.YtcklfffeimnfeaaGreatBx07
import Derived.Test.YtcklfffeimnfeaaGreatBx00
set_option maxRecDepth 100000
set_option maxHeartbeats 12800000
set_option linter.unusedSimpArgs false
set_option linter.unusedVariables false
namespace Go.Proofs.YtcklfffeimnfeaaGreat
open Go.RowKit

/-- neighbours -/
def mayA (l : List ArcD) : Bool := decide ((∀ a ∈ l, 0 < a.2) ∧ l.Pairwise (fun a b => a.1 < b.1) ∧ sumA l ≤ 2147483647)
def badA (l : List ArcD) (i : Nat) : Prop := ∃ h : i < l.length, l[i].2 = 0 ∨ ∃ h0 : 0 < i, l[i].1 ≤ (l[i - 1]'(by omega)).1
theorem mayA_bad {l : List ArcD} {i : Nat} (h : badA l i) : mayA l = false := by
  obtain ⟨hi, h⟩ := h
  refine decide_eq_false (fun ⟨h1, h2, _⟩ => ?_)
  rcases h with h | ⟨h0, h⟩
  · have := h1 l[i] (List.getElem_mem hi); omega
  · have := List.pairwise_iff_getElem.1 h2 (i - 1) i (by omega) hi (by omega); omega
theorem pairwise_adj {l : List ArcD} (h : ∀ i (hi : i < l.length) (h0 : 0 < i), (l[i - 1]'(by omega)).1 < l[i].1) : l.Pairwise (fun a b => a.1 < b.1) := by
  refine List.pairwise_iff_getElem.2 (fun i j hi hj hij => ?_)
  obtain ⟨d, rfl⟩ : ∃ d, j = i + 1 + d := ⟨j - i - 1, by omega⟩
  clear hij
  induction d with
  | zero => have := h (i + 1) hj (by omega); simpa using this
  | succ d ih =>
    have h1 := ih (by omega)
    have h2 := h (i + 1 + (d + 1)) hj (by omega)
    have e : l[i + 1 + (d + 1) - 1]'(by omega) = l[i + 1 + d]'(by omega) := by congr 1
    rw [e] at h2
    omega
theorem mayA_good {l : List ArcD} (h : ∀ i, i < l.length → ¬ badA l i) : mayA l = decide (sumA l ≤ 2147483647) := by
  unfold mayA
  have h1 : ∀ a ∈ l, 0 < a.2 := fun a ha => by
    obtain ⟨i, hi, rfl⟩ := List.mem_iff_getElem.1 ha
    have := h i hi
    unfold badA at this
    have h2 : l[i].2 ≠ 0 := fun e => this ⟨hi, .inl e⟩
    omega
  have h2 := pairwise_adj (l := l) (fun i hi h0 => by
    have := h i hi
    have h3 : ¬ l[i].1 ≤ (l[i - 1]'(by omega)).1 := fun e => this ⟨hi, .inr ⟨h0, e⟩⟩
    omega)
  rw [Bool.eq_iff_iff]
  simp only [decide_eq_true_eq]
  exact ⟨fun h => h.2.2, fun h => ⟨h1, h2, h⟩⟩

abbrev CellD := Nat × Nat
/-- a draw of a walker -/
def drwN (j : JobD) (x : WkD) (att n : Nat) : Nat := (belowZ (drawZ j.seed x.id x.step att) n).toNat
theorem drwN_lt (j : JobD) (x : WkD) (att n : Nat) (hn : 0 < n) : drwN j x att n < n := by
  have h := belowZ_lt (drawZ j.seed x.id x.step att) n (by omega)
  unfold drwN
  omega
def weightN (p q : Nat) (back near : Bool) : Nat := if back then q else if near then p * q else p
def totalM (l : List ArcD) : Nat := if mayA l then sumA l * l.length else 0
def aliasM (l : List ArcD) (t : List CellD) (x : Nat) : Option Nat :=
  if l.length ≠ t.length ∨ totalM l ≤ x then none
  else if x % sumA l < t[x / sumA l]!.1 then some (x / sumA l)
  else if t[x / sumA l]!.2 < l.length then some t[x / sumA l]!.2 else none
def stepsM (j : JobD) (x : WkD) (tv : Nat) : WkD × Nat := (⟨x.id, (x.step + 1) % 4294967296, tv, if j.kind = 2 then x.at_ else 0, 0, 0, 0⟩, 2)
def lostM (j : JobD) (x : WkD) : WkD × Nat := if x.try_ + 1 = j.tries then (x, 0) else (⟨x.id, x.step, x.at_, x.prev, 0, x.try_ + 1, 0⟩, 1)
def nearM (l : List ArcD) (tv : Nat) : Bool := l.any (fun a => a.1 == tv)
def acceptsM (j : JobD) (x : WkD) (tv : Nat) (near : Bool) : Bool := decide (drwN j x (2 * x.try_) (j.p * j.q) < weightN j.p j.q (tv == x.prev) near)
def restartsM (j : JobD) (x : WkD) : Bool := decide (j.kind = 1) && decide (drwN j x 0 j.od < j.stop)
def takeM (j : JobD) (x : WkD) (tv : Nat) : WkD × Nat :=
  if j.kind = 2 ∧ 0 < x.step then
    (if acceptsM j x tv true = acceptsM j x tv false then (if acceptsM j x tv true then stepsM j x tv else lostM j x) else ({ x with next := tv, state := 1 }, 1))
  else stepsM j x tv
def moveM (j : JobD) (x : WkD) (l : List ArcD) (t : List CellD) : WkD × Nat :=
  if !mayW j x || !mayA l then (x, 0)
  else if x.state = 1 then (if acceptsM j x x.next (nearM l x.next) then stepsM j x x.next else lostM j x)
  else if x.step = j.length ∨ l = [] then (x, 0)
  else if restartsM j x then stepsM j x j.src[srcN j x.id]!
  else match aliasM l t (drwN j x (2 * x.try_ + 1) (totalM l)) with
    | none => (x, 0)
    | some i => takeM j x l[i]!.1

/-! ### who may be -/
structure MayW (j : JobD) (x : WkD) : Prop where
  src : srcH j x.id = true
  step : x.step ≤ j.length
  try_ : x.try_ < j.tries
  zero : x.step = 0 → x.prev = 0 ∧ x.try_ = 0 ∧ x.state = 0
  first : j.kind ≠ 2 → x.prev = 0 ∧ x.try_ = 0 ∧ x.state = 0
  state : (x.state = 0 ∧ x.next = 0) ∨ (x.state = 1 ∧ j.kind = 2 ∧ x.step < j.length ∧ 0 < x.step)
theorem mayJ_small {j : JobD} (h : mayJ j = true) : j.length ≤ 65536 ∧ j.tries ≤ 1024 ∧ 1 ≤ j.tries ∧ j.p ≤ 65536 ∧ j.q ≤ 65536 ∧ 1 ≤ j.p ∧ 1 ≤ j.q ∧ 1 ≤ j.od ∧ j.src.length ≤ 256 := by
  simp only [mayJ, walkB, secB, srcB, inB, Bool.and_eq_true, decide_eq_true_eq] at h
  omega
/-- what a move leaves -/
def MoveOk (j : JobD) (x : WkD) (r : WkD × Nat) : Prop :=
  (r.2 = 0 ∧ r.1 = x) ∨
  (r.2 = 1 ∧ mayW j r.1 = true ∧ r.1.id = x.id ∧ r.1.step = x.step ∧ r.1.at_ = x.at_ ∧ r.1.prev = x.prev ∧ ((r.1.try_ = x.try_ + 1 ∧ r.1.state = 0) ∨ (r.1.try_ = x.try_ ∧ x.state = 0 ∧ r.1.state = 1))) ∨
  (r.2 = 2 ∧ mayW j r.1 = true ∧ r.1.id = x.id ∧ r.1.step = x.step + 1 ∧ r.1.try_ = 0 ∧ r.1.state = 0)
structure SameJ (j k : JobD) : Prop where
  kind : k.kind = j.kind
  seed : k.seed = j.seed
  walks : k.walks = j.walks
  src : k.src = j.src
  stop : k.stop = j.stop
  od : k.od = j.od
  p : k.p = j.p
  q : k.q = j.q
  tries : k.tries = j.tries
end Go.Proofs.YtcklfffeimnfeaaGreat

namespace Go.Proofs.YtcklfffeimnfeaaGreat

def gN (L : List Nat) (i : Nat) : Nat := L.getD i 0
theorem gN_get {L : List Nat} {i : Nat} (h : i < L.length) : gN L i = L[i] := by unfold gN; rw [List.getD_eq_getElem?_getD, List.getElem?_eq_getElem h]; rfl
theorem gN_set {L : List Nat} {i k v : Nat} (h : i < L.length) : gN (L.set i v) k = if k = i then v else gN L k := by
  unfold gN
  rw [List.getD_eq_getElem?_getD, List.getElem?_set]
  by_cases e : k = i
  · subst e; simp [h]
  · rw [if_neg (fun x => e x.symm), if_neg e, List.getD_eq_getElem?_getD]
theorem sum_set : ∀ (L : List Nat) (i v : Nat) (h : i < L.length), (L.set i v).sum + L[i] = L.sum + v
  | x :: L, 0, v, _ => by simp; omega
  | x :: L, i + 1, v, h => by
    have := sum_set L i v (by simpa using h)
    simp only [List.set_cons_succ, List.sum_cons, List.getElem_cons_succ]
    omega
def lowI (L : List Nat) (w : Nat) : Option Nat := L.findIdx? (fun x => decide (x < w))
def highI (L : List Nat) (w : Nat) : Option Nat := L.findIdx? (fun x => decide (w < x))
theorem lowI_some {L : List Nat} {w i : Nat} : lowI L w = some i ↔ ∃ h : i < L.length, L[i] < w ∧ ∀ j (hj : j < i), w ≤ L[j]'(by omega) := by
  unfold lowI
  rw [List.findIdx?_eq_some_iff_getElem]
  simp only [decide_eq_true_eq, decide_eq_false_iff_not, Nat.not_lt, Bool.not_eq_true]
theorem highI_some {L : List Nat} {w i : Nat} : highI L w = some i ↔ ∃ h : i < L.length, w < L[i] ∧ ∀ j (hj : j < i), L[j]'(by omega) ≤ w := by
  unfold highI
  rw [List.findIdx?_eq_some_iff_getElem]
  simp only [decide_eq_true_eq, decide_eq_false_iff_not, Nat.not_lt, Bool.not_eq_true]
theorem lowI_none {L : List Nat} {w : Nat} : lowI L w = none ↔ ∀ x ∈ L, w ≤ x := by
  unfold lowI
  rw [List.findIdx?_eq_none_iff]
  simp
theorem highI_none {L : List Nat} {w : Nat} : highI L w = none ↔ ∀ x ∈ L, x ≤ w := by
  unfold highI
  rw [List.findIdx?_eq_none_iff]
  simp
abbrev BSt := List Nat × List (Nat × Nat)
/-- one turn: the first that lacks gets from the first that has more -/
def bturn (w : Nat) (s : BSt) (i j : Nat) : BSt := ((s.1.set j (gN s.1 j - (w - gN s.1 i))).set i w, s.2.set i (gN s.1 i, j))
def bnext (w : Nat) (s : BSt) : Option BSt := match lowI s.1 w, highI s.1 w with
  | some i, some j => some (bturn w s i j)
  | _, _ => none
def brun (w : Nat) : Nat → BSt → BSt
  | 0, s => s
  | f + 1, s => match bnext w s with
    | none => s
    | some s' => brun w f s'
def bstart (W : List Nat) : BSt := (W.map (fun x => W.length * x), (List.range W.length).map (fun i => (W.sum, i)))
def buildT (W : List Nat) : List (Nat × Nat) := (brun W.sum (W.length + 1) (bstart W)).2
/-- how many draws a cell sends to a neighbour -/
def conT (w tv : Nat) (k : Nat) (c : Nat × Nat) : Nat := (if k = tv then c.1 else 0) + (if c.2 = tv then w - c.1 else 0)
def cntT (w tv : Nat) : Nat → List (Nat × Nat) → Nat
  | _, [] => 0
  | k, c :: T => conT w tv k c + cntT w tv (k + 1) T
theorem cntT_set (w tv : Nat) : ∀ (T : List (Nat × Nat)) (k i : Nat) (c d : Nat × Nat), T[i]? = some c → cntT w tv k (T.set i d) + conT w tv (k + i) c = cntT w tv k T + conT w tv (k + i) d
  | [], _, _, _, _, h => by simp at h
  | x :: T, k, 0, c, d, h => by
    simp only [List.getElem?_cons_zero, Option.some.injEq] at h
    subst h
    simp only [List.set_cons_zero, cntT, Nat.add_zero]
    omega
  | x :: T, k, i + 1, c, d, h => by
    rw [List.getElem?_cons_succ] at h
    have := cntT_set w tv T (k + 1) i c d h
    rw [show k + 1 + i = k + (i + 1) by omega] at this
    simp only [List.set_cons_succ, cntT]
    omega
/-- a table that is right for weights -/
def RightT (W : List Nat) (T : List (Nat × Nat)) : Prop :=
  T.length = W.length ∧ (∀ (i : Nat) (c : Nat × Nat), T[i]? = some c → c.1 ≤ W.sum ∧ c.2 < W.length) ∧ ∀ i, i < W.length → cntT W.sum i 0 T = W.length * gN W i
structure BInv (W : List Nat) (s : BSt) : Prop where
  l1 : s.1.length = W.length
  l2 : s.2.length = W.length
  sum : s.1.sum = W.length * W.sum
  fresh : ∀ i, i < W.length → s.2[i]? = some (W.sum, i) ∨ gN s.1 i = W.sum
  cells : ∀ (i : Nat) (c : Nat × Nat), s.2[i]? = some c → c.1 ≤ W.sum ∧ c.2 < W.length
  cnt : ∀ i, i < W.length → cntT W.sum i 0 s.2 + gN s.1 i = W.length * gN W i + W.sum
theorem sum_map_mul (n : Nat) : ∀ W : List Nat, (W.map (fun x => n * x)).sum = n * W.sum
  | [] => by simp
  | x :: W => by simp [sum_map_mul n W, Nat.mul_add]
theorem cnt_start (w tv : Nat) : ∀ (m k : Nat), cntT w tv k ((List.range' k m).map (fun i => (w, i))) = if k ≤ tv ∧ tv < k + m then w else 0
  | 0, k => by simp [cntT]; omega
  | m + 1, k => by
    rw [List.range'_succ, List.map_cons, cntT, cnt_start w tv m (k + 1)]
    unfold conT
    simp only [Nat.sub_self]
    by_cases h : k = tv
    · rw [if_pos h, if_pos h, if_neg (by omega), if_pos (by omega)]; omega
    · rw [if_neg h, if_neg h]
      by_cases h2 : k + 1 ≤ tv ∧ tv < k + 1 + m
      · rw [if_pos h2, if_pos (by omega)]; omega
      · rw [if_neg h2, if_neg (by omega)]
theorem BInv.start (W : List Nat) : BInv W (bstart W) := by
  unfold bstart
  refine ⟨by simp, by simp, sum_map_mul _ _, fun i h => .inl ?_, fun i c h => ?_, fun i h => ?_⟩
  · simp [h]
  · rw [List.getElem?_map] at h
    obtain ⟨j, hj, rfl⟩ := Option.map_eq_some_iff.1 h
    have := List.mem_range.1 (List.mem_of_getElem? hj)
    exact ⟨Nat.le_refl _, this⟩
  · rw [List.range_eq_range', cnt_start, if_pos (by omega)]
    rw [gN_get (by simpa using h), gN_get h]
    simp
    omega
theorem BInv.turn {W : List Nat} {s : BSt} (h : BInv W s) {i j : Nat} (hi : i < W.length) (hj : j < W.length) (hlo : gN s.1 i < W.sum) (hhi : W.sum < gN s.1 j) : BInv W (bturn W.sum s i j) := by
  have hij : i ≠ j := fun e => by rw [e] at hlo; omega
  have hil : i < s.1.length := by rw [h.l1]; exact hi
  have hjl : j < s.1.length := by rw [h.l1]; exact hj
  have hci : s.2[i]? = some (W.sum, i) := (h.fresh i hi).resolve_right (by omega)
  have hg : ∀ k, gN (bturn W.sum s i j).1 k = if k = i then W.sum else if k = j then gN s.1 j - (W.sum - gN s.1 i) else gN s.1 k := fun k => by
    show gN ((s.1.set j _).set i _) k = _
    rw [gN_set (by rw [List.length_set]; exact hil), gN_set hjl]
  refine ⟨by simp [bturn, h.l1], by simp [bturn, h.l2], ?_, fun k hk => ?_, fun k c hc => ?_, fun k hk => ?_⟩
  · have h1 := sum_set s.1 j (gN s.1 j - (W.sum - gN s.1 i)) hjl
    have h2 := sum_set (s.1.set j (gN s.1 j - (W.sum - gN s.1 i))) i W.sum (by rw [List.length_set]; exact hil)
    rw [List.getElem_set_ne (fun e => hij e.symm)] at h2
    rw [gN_get hil, gN_get hjl] at *
    have := h.sum
    show ((s.1.set j (gN s.1 j - (W.sum - gN s.1 i))).set i W.sum).sum = _
    rw [gN_get hil, gN_get hjl]
    omega
  · rw [hg k]
    by_cases e : k = i
    · exact .inr (by rw [if_pos e])
    · rw [if_neg e]
      have hc : (bturn W.sum s i j).2[k]? = s.2[k]? := by show (s.2.set i _)[k]? = _; rw [List.getElem?_set_ne (fun x => e x.symm)]
      rw [hc]
      rcases h.fresh k hk with h1 | h1
      · exact .inl h1
      · refine .inr ?_
        rw [if_neg (fun e2 => by rw [e2] at h1; omega)]
        exact h1
  · have hc' : (s.2.set i (gN s.1 i, j))[k]? = some c := hc
    by_cases e : k = i
    · subst e
      rw [List.getElem?_set_self (by rw [h.l2]; exact hi)] at hc'
      cases hc'
      exact ⟨Nat.le_of_lt hlo, hj⟩
    · rw [List.getElem?_set_ne (fun x => e x.symm)] at hc'
      exact h.cells k c hc'
  · have h1 := cntT_set W.sum k s.2 0 i (W.sum, i) (gN s.1 i, j) hci
    have h2 := h.cnt k hk
    rw [hg k]
    show cntT W.sum k 0 (s.2.set i (gN s.1 i, j)) + _ = _
    unfold conT at h1
    simp only [Nat.zero_add, Nat.sub_self] at h1
    by_cases e : k = i
    · subst e
      rw [if_pos rfl] at h1 ⊢
      rw [if_pos rfl, if_pos rfl, if_neg (fun x => hij x.symm)] at h1
      omega
    · rw [if_neg e]
      rw [if_neg (fun x => e x.symm), if_neg (fun x => e x.symm), if_neg (fun x => e x.symm)] at h1
      by_cases e2 : k = j
      · subst e2
        rw [if_pos rfl] at h1 ⊢
        omega
      · rw [if_neg (fun x => e2 x.symm)] at h1
        rw [if_neg e2]
        omega
theorem sum_low {w : Nat} : ∀ {L : List Nat}, (∀ x ∈ L, w ≤ x) → L.length * w ≤ L.sum ∧ (L.sum = L.length * w → ∀ x ∈ L, x = w)
  | [], _ => ⟨by simp, fun _ x h => by cases h⟩
  | y :: L, h => by
    obtain ⟨h1, h2⟩ := sum_low (L := L) (fun x hx => h x (by simp [hx]))
    have hy := h y (by simp)
    simp only [List.length_cons, List.sum_cons, Nat.add_mul, Nat.one_mul]
    refine ⟨by omega, fun e x hx => ?_⟩
    rcases List.mem_cons.1 hx with rfl | hx
    · omega
    · exact h2 (by omega) x hx
theorem sum_high {w : Nat} : ∀ {L : List Nat}, (∀ x ∈ L, x ≤ w) → L.sum ≤ L.length * w ∧ (L.sum = L.length * w → ∀ x ∈ L, x = w)
  | [], _ => ⟨by simp, fun _ x h => by cases h⟩
  | y :: L, h => by
    obtain ⟨h1, h2⟩ := sum_high (L := L) (fun x hx => h x (by simp [hx]))
    have hy := h y (by simp)
    simp only [List.length_cons, List.sum_cons, Nat.add_mul, Nat.one_mul]
    refine ⟨by omega, fun e x hx => ?_⟩
    rcases List.mem_cons.1 hx with rfl | hx
    · omega
    · exact h2 (by omega) x hx
theorem BInv.next {W : List Nat} {s : BSt} (h : BInv W s) : (bnext W.sum s = none → ∀ i, i < W.length → gN s.1 i = W.sum) ∧
    ∀ s', bnext W.sum s = some s' → BInv W s' ∧ s'.1.countP (fun x => decide (x ≠ W.sum)) < s.1.countP (fun x => decide (x ≠ W.sum)) := by
  have hall : (∀ x ∈ s.1, x = W.sum) → ∀ i, i < W.length → gN s.1 i = W.sum := fun ha i hi => by
    rw [gN_get (by rw [h.l1]; exact hi)]
    exact ha _ (List.getElem_mem _)
  have hsum : s.1.sum = s.1.length * W.sum := by rw [h.l1]; exact h.sum
  cases hlo : lowI s.1 W.sum with
  | none =>
    refine ⟨fun _ => hall ((sum_low (lowI_none.1 hlo)).2 hsum), fun s' hs => ?_⟩
    unfold bnext at hs
    rw [hlo] at hs
    cases hs
  | some i =>
    cases hhi : highI s.1 W.sum with
    | none =>
      refine ⟨fun _ => hall ((sum_high (highI_none.1 hhi)).2 hsum), fun s' hs => ?_⟩
      unfold bnext at hs
      rw [hlo, hhi] at hs
      cases hs
    | some j =>
      obtain ⟨hil, h1, _⟩ := lowI_some.1 hlo
      obtain ⟨hjl, h2, _⟩ := highI_some.1 hhi
      have hb : bnext W.sum s = some (bturn W.sum s i j) := by unfold bnext; rw [hlo, hhi]
      refine ⟨fun hn => (by rw [hb] at hn; cases hn), fun s' hs => ?_⟩
      rw [hb] at hs
      cases hs
      rw [← gN_get hil] at h1
      rw [← gN_get hjl] at h2
      refine ⟨h.turn (by rw [← h.l1]; exact hil) (by rw [← h.l1]; exact hjl) h1 h2, ?_⟩
      have hij : i ≠ j := fun e => by rw [e] at h1; omega
      show ((s.1.set j _).set i W.sum).countP _ < _
      rw [List.countP_set (by rw [List.length_set]; exact hil), List.countP_set hjl, List.getElem_set_ne (fun e => hij e.symm), ← gN_get hil, ← gN_get hjl]
      have e1 : (decide (gN s.1 i ≠ W.sum)) = true := decide_eq_true (by omega)
      have e2 : (decide (gN s.1 j ≠ W.sum)) = true := decide_eq_true (by omega)
      have e3 : (decide (W.sum ≠ W.sum)) = false := by simp
      have hp0 : 0 < s.1.countP (fun x => decide (x ≠ W.sum)) := List.countP_pos_iff.2 ⟨gN s.1 i, by rw [gN_get hil]; exact List.getElem_mem hil, e1⟩
      rw [if_pos e1, if_pos e2, if_neg (show ¬ (decide (W.sum ≠ W.sum) = true) by simp)]
      generalize List.countP (fun x => decide (x ≠ W.sum)) s.1 = C at hp0 ⊢
      split <;> omega
theorem brun_end {W : List Nat} : ∀ (f : Nat) {s : BSt}, BInv W s → s.1.countP (fun x => decide (x ≠ W.sum)) < f → BInv W (brun W.sum f s) ∧ bnext W.sum (brun W.sum f s) = none
  | 0, s, h, hf => by omega
  | f + 1, s, h, hf => by
    unfold brun
    cases hb : bnext W.sum s with
    | none => exact ⟨h, hb⟩
    | some s' =>
      obtain ⟨h1, h2⟩ := h.next.2 s' hb
      exact brun_end f h1 (by omega)
theorem buildT_right (W : List Nat) : RightT W (buildT W) := by
  have hc : (bstart W).1.countP (fun x => decide (x ≠ W.sum)) < W.length + 1 := by
    have := List.countP_le_length (l := (bstart W).1) (p := fun x => decide (x ≠ W.sum))
    have h2 : (bstart W).1.length = W.length := by simp [bstart]
    omega
  obtain ⟨h, hn⟩ := brun_end (W.length + 1) (BInv.start W) hc
  refine ⟨h.l2, h.cells, fun i hi => ?_⟩
  have h1 := h.cnt i hi
  rw [h.next.1 hn i hi] at h1
  unfold buildT
  omega
end Go.Proofs.YtcklfffeimnfeaaGreat

namespace Go.Proofs.YtcklfffeimnfeaaGreat

/-- the neighbour that a draw comes to -/
def toT (T : List (Nat × Nat)) (w x : Nat) : Nat := if x % w < (T.getD (x / w) (0, 0)).1 then x / w else (T.getD (x / w) (0, 0)).2
/-- how many draws below x come to a neighbour -/
def belowT (w tv x : Nat) : Nat → List (Nat × Nat) → Nat
  | _, [] => 0
  | k, c :: T => if x ≤ k * w then 0 else (if k = tv then min (min (x - k * w) w) c.1 else 0) + (if c.2 = tv then min (x - k * w) w - c.1 else 0) + belowT w tv x (k + 1) T
/-- the draws of a neighbour, run by run -/
def piecesT (w tv : Nat) : Nat → List (Nat × Nat) → List (Nat × Nat)
  | _, [] => []
  | k, c :: T => (if k = tv ∧ 0 < c.1 then [(k * w, c.1)] else []) ++ (if c.2 = tv ∧ c.1 < w then [(k * w + c.1, w - c.1)] else []) ++ piecesT w tv (k + 1) T
def goP (x : Nat) : Nat → List (Nat × Nat) → Option Nat
  | _, [] => none
  | y, p :: l => if x < p.1 + p.2 then some (y + x - p.1) else goP x (y + p.2) l
theorem goP_app (x : Nat) : ∀ (y : Nat) (l m : List (Nat × Nat)), (∀ p ∈ l, p.1 + p.2 ≤ x) → goP x y (l ++ m) = goP x (y + (l.map (·.2)).sum) m
  | y, [], m, _ => by simp
  | y, p :: l, m, h => by
    rw [List.cons_append, goP, if_neg (by have := h p (by simp); omega), goP_app x _ l m (fun q hq => h q (by simp [hq]))]
    simp [Nat.add_assoc]
theorem below_zero (w tv x : Nat) : ∀ (k : Nat) (T : List (Nat × Nat)), x ≤ k * w → belowT w tv x k T = 0
  | _, [], _ => rfl
  | k, c :: T, h => by rw [belowT, if_pos h]
/-- behind the draw's own cell nothing counts; of the cells ahead all -/
theorem goP_below {w x tv : Nat} (hw : 0 < w) : ∀ (T : List (Nat × Nat)) (k y : Nat), (∀ c ∈ T, c.1 ≤ w) → k * w ≤ x → x < (k + T.length) * w →
    (∀ c, T[x / w - k]? = some c → tv = if x % w < c.1 then x / w else c.2) → goP x y (piecesT w tv k T) = some (y + belowT w tv x k T) ∧ belowT w tv x k T < cntT w tv k T
  | [], k, y, _, h1, h2, _ => by simp at h2; omega
  | c :: T, k, y, hc, h1, h2, ht => by
    have hcw := hc c (by simp)
    by_cases hq : x < (k + 1) * w
    · have hqk : x / w = k := Nat.div_eq_of_lt_le (by rw [Nat.mul_comm] at h1 ⊢ <;> exact h1) hq
      have hr : x % w = x - k * w := by rw [Nat.mod_eq_sub_div_mul, hqk]
      have ht := ht c (by rw [hqk]; simp)
      rw [hqk, hr] at ht
      have hxw : x - k * w < w := by rw [Nat.add_mul, Nat.one_mul] at hq; omega
      have hz : belowT w tv x (k + 1) T = 0 := below_zero w tv x (k + 1) T (Nat.le_of_lt hq)
      by_cases hlt : x - k * w < c.1
      · rw [if_pos hlt] at ht
        subst ht
        refine ⟨?_, ?_⟩
        · rw [piecesT, if_pos ⟨rfl, by omega⟩, List.singleton_append, List.cons_append, goP, if_pos (by show x < tv * w + c.1; omega), belowT]
          by_cases h0 : x ≤ tv * w
          · rw [if_pos h0]; show some (y + x - tv * w) = _; congr 1; omega
          · rw [if_neg h0, if_pos rfl, hz]
            show some (y + x - tv * w) = _
            congr 1
            have e : (if c.2 = tv then min (x - tv * w) w - c.1 else 0) = 0 := by split <;> omega
            rw [e]; omega
        · rw [belowT, cntT]
          unfold conT
          by_cases h0 : x ≤ tv * w
          · rw [if_pos h0, if_pos rfl]; omega
          · rw [if_neg h0, if_pos rfl, if_pos rfl, hz]
            have e : (if c.2 = tv then min (x - tv * w) w - c.1 else 0) = 0 := by split <;> omega
            rw [e]; omega
      · rw [if_neg hlt] at ht
        subst ht
        have h2' : k * w + c.1 ≤ x := by omega
        refine ⟨?_, ?_⟩
        · rw [piecesT, if_pos (⟨rfl, by omega⟩ : c.2 = c.2 ∧ c.1 < w)]
          by_cases hk : k = c.2 ∧ 0 < c.1
          · rw [if_pos hk, List.singleton_append, List.cons_append, goP, if_neg (by show ¬ x < k * w + c.1; omega), List.singleton_append, goP, if_pos (by show x < k * w + c.1 + (w - c.1); omega), belowT]
            rw [if_neg (by omega), if_pos hk.1, if_pos rfl, hz]
            show some (y + c.1 + x - (k * w + c.1)) = _
            congr 1
            omega
          · rw [if_neg hk, List.nil_append, List.singleton_append, goP, if_pos (by show x < k * w + c.1 + (w - c.1); omega), belowT]
            show some (y + x - (k * w + c.1)) = _
            congr 1
            by_cases h0 : x ≤ k * w
            · rw [if_pos h0]; omega
            · rw [if_neg h0, if_pos rfl, hz]
              have e : (if k = c.2 then min (min (x - k * w) w) c.1 else 0) = 0 := by
                split
                · rename_i h; have : ¬ 0 < c.1 := fun h' => hk ⟨h, h'⟩; omega
                · rfl
              rw [e]; omega
        · rw [belowT, cntT]
          unfold conT
          by_cases h0 : x ≤ k * w
          · rw [if_pos h0, if_pos rfl]; omega
          · rw [if_neg h0, if_pos rfl, if_pos rfl, hz]
            have e : (if k = c.2 then min (min (x - k * w) w) c.1 else 0) ≤ (if k = c.2 then c.1 else 0) := by split <;> omega
            omega
    · have hge : (k + 1) * w ≤ x := by omega
      have hkw : k * w + w ≤ x := by rw [Nat.add_mul, Nat.one_mul] at hge; exact hge
      have hqd : k + 1 ≤ x / w := (Nat.le_div_iff_mul_le hw).2 hge
      obtain ⟨ih1, ih2⟩ := goP_below (tv := tv) hw T (k + 1) (y + (((if k = tv ∧ 0 < c.1 then [(k * w, c.1)] else []) ++ (if c.2 = tv ∧ c.1 < w then [(k * w + c.1, w - c.1)] else [])).map (·.2)).sum) (fun d hd => hc d (by simp [hd])) hge (by rw [show k + 1 + T.length = k + (c :: T).length by simp; omega]; exact h2) (fun d hd => ht d (by
        rw [show x / w - k = (x / w - (k + 1)) + 1 by omega, List.getElem?_cons_succ]; exact hd))
      have hb : belowT w tv x k (c :: T) = conT w tv k c + belowT w tv x (k + 1) T := by
        rw [belowT, if_neg (by omega)]
        unfold conT
        rw [Nat.min_eq_right (show w ≤ x - k * w by omega), Nat.min_eq_right hcw]
      refine ⟨?_, by rw [hb, cntT]; omega⟩
      rw [piecesT, goP_app x y _ _ (fun p hp => ?_), ih1, hb]
      · congr 1
        have e : ((((if k = tv ∧ 0 < c.1 then [(k * w, c.1)] else []) ++ (if c.2 = tv ∧ c.1 < w then [(k * w + c.1, w - c.1)] else []) : List (Nat × Nat))).map (·.2)).sum = conT w tv k c := by
          unfold conT
          rw [List.map_append, List.sum_append]
          congr 1
          · by_cases h : k = tv
            · by_cases h' : 0 < c.1
              · rw [if_pos ⟨h, h'⟩, if_pos h]; simp
              · rw [if_neg (fun e => h' e.2), if_pos h]; simp; omega
            · rw [if_neg (fun e => h e.1), if_neg h]; rfl
          · by_cases h : c.2 = tv
            · by_cases h' : c.1 < w
              · rw [if_pos ⟨h, h'⟩, if_pos h]; simp
              · rw [if_neg (fun e => h' e.2), if_pos h]; simp; omega
            · rw [if_neg (fun e => h e.1), if_neg h]; rfl
        omega
      · rcases List.mem_append.1 hp with hp | hp
        · split at hp
          · rw [List.mem_singleton] at hp; subst hp; show k * w + c.1 ≤ x; omega
          · cases hp
        · split at hp
          · rw [List.mem_singleton] at hp; subst hp; show k * w + c.1 + (w - c.1) ≤ x; omega
          · cases hp
/-- the interval that a number lies in -/
def frontT (W : List Nat) (k : Nat) : Nat := W.length * (W.take k).sum
def intervalT (W : List Nat) (y : Nat) : Nat := ((List.range W.length).findIdx? (fun i => decide (y < frontT W (i + 1)))).getD 0
theorem frontT_le (W : List Nat) {i k : Nat} (h : i ≤ k) : frontT W i ≤ frontT W k := by
  unfold frontT
  refine Nat.mul_le_mul_left _ ?_
  have : W.take i = (W.take k).take i := by rw [List.take_take, Nat.min_eq_left h]
  rw [this]
  have h2 := List.take_append_drop i (W.take k)
  have h3 : (W.take k).sum = ((W.take k).take i).sum + ((W.take k).drop i).sum := by rw [← List.sum_append, h2]
  omega
theorem frontT_all (W : List Nat) : frontT W W.length = W.length * W.sum := by unfold frontT; rw [List.take_length]
theorem intervalT_is {W : List Nat} {y i : Nat} (hi : i < W.length) (h1 : frontT W i ≤ y) (h2 : y < frontT W (i + 1)) : intervalT W y = i := by
  unfold intervalT
  have : (List.range W.length).findIdx? (fun i => decide (y < frontT W (i + 1))) = some i := by
    rw [List.findIdx?_eq_some_iff_getElem]
    refine ⟨by simpa using hi, by simpa using h2, fun j hj => ?_⟩
    have := frontT_le W (show j + 1 ≤ i by omega)
    simp
    omega
  rw [this]; rfl
/-- the number that a draw is mapped to -/
def remapT (W : List Nat) (T : List (Nat × Nat)) (x : Nat) : Nat := frontT W (toT T W.sum x) + belowT W.sum (toT T W.sum x) x 0 T
theorem toT_lt {W : List Nat} {T : List (Nat × Nat)} {x : Nat} (hT : RightT W T) (hx : x < W.length * W.sum) : toT T W.sum x < W.length := by
  have hw : 0 < W.sum := Nat.pos_of_ne_zero (fun e => by rw [e] at hx; simp at hx)
  have hq : x / W.sum < W.length := (Nat.div_lt_iff_lt_mul hw).2 hx
  unfold toT
  split
  · exact hq
  · have hg : T[x / W.sum]? = some (T.getD (x / W.sum) (0, 0)) := by
      rw [List.getD_eq_getElem?_getD, List.getElem?_eq_getElem (by rw [hT.1]; exact hq)]; rfl
    exact (hT.2.1 _ _ hg).2
theorem remap_go {W : List Nat} {T : List (Nat × Nat)} {x : Nat} (hT : RightT W T) (hx : x < W.length * W.sum) :
    goP x (frontT W (toT T W.sum x)) (piecesT W.sum (toT T W.sum x) 0 T) = some (remapT W T x) ∧ remapT W T x < frontT W (toT T W.sum x + 1) := by
  have hw : 0 < W.sum := Nat.pos_of_ne_zero (fun e => by rw [e] at hx; simp at hx)
  have ht := toT_lt hT hx
  obtain ⟨h1, h2⟩ := goP_below (x := x) (tv := toT T W.sum x) hw T 0 (frontT W (toT T W.sum x)) (fun c hc => by
    obtain ⟨i, hi⟩ := List.mem_iff_getElem?.1 hc
    exact (hT.2.1 i c hi).1) (by simp) (by rw [hT.1, Nat.zero_add]; exact hx) (fun c hc => by
    rw [Nat.sub_zero] at hc
    unfold toT
    rw [List.getD_eq_getElem?_getD, hc]; rfl)
  refine ⟨h1, ?_⟩
  unfold remapT
  rw [hT.2.2 _ ht] at h2
  have : frontT W (toT T W.sum x + 1) = frontT W (toT T W.sum x) + W.length * gN W (toT T W.sum x) := by
    unfold frontT
    rw [List.take_succ_eq_append_getElem ht, List.sum_append, gN_get ht]
    simp [Nat.mul_add]
  omega
/-- the mapped number lies in the interval of the draw's own neighbour -/
theorem interval_remap {W : List Nat} {T : List (Nat × Nat)} {x : Nat} (hT : RightT W T) (hx : x < W.length * W.sum) : intervalT W (remapT W T x) = toT T W.sum x :=
  intervalT_is (toT_lt hT hx) (by unfold remapT; omega) (remap_go hT hx).2
end Go.Proofs.YtcklfffeimnfeaaGreat

namespace Go.Proofs.YtcklfffeimnfeaaGreat

/-- poor: who lacks, rising; nobody ahead of rich has more than it should have -/
structure PInv (w : Nat) (L poor : List Nat) (rich : Nat) : Prop where
  rise : poor.Pairwise (· < ·)
  mem : ∀ i, i ∈ poor ↔ ∃ h : i < L.length, L[i] < w
  past : ∀ k (h : k < L.length), k < rich → L[k] ≤ w
theorem PInv.low {w i : Nat} {L rest : List Nat} {rich : Nat} (h : PInv w L (i :: rest) rich) : lowI L w = some i := by
  obtain ⟨hi, hlt⟩ := (h.mem i).1 (by simp)
  refine lowI_some.2 ⟨hi, hlt, fun j hj => ?_⟩
  rcases Nat.lt_or_ge (L[j]'(by omega)) w with h1 | h1
  · have hm := (h.mem j).2 ⟨by omega, h1⟩
    rcases List.mem_cons.1 hm with e | e
    · omega
    · have := (List.pairwise_cons.1 h.rise).1 j e; omega
  · exact h1
theorem PInv.low_none {w : Nat} {L : List Nat} {rich : Nat} (h : PInv w L [] rich) : lowI L w = none := by
  refine lowI_none.2 fun x hx => ?_
  obtain ⟨i, hi, rfl⟩ := List.mem_iff_getElem.1 hx
  rcases Nat.lt_or_ge L[i] w with h1 | h1
  · have := (h.mem i).2 ⟨hi, h1⟩; cases this
  · exact h1
theorem BInv.rich {W : List Nat} {s : BSt} (h : BInv W s) {i : Nat} (hi : lowI s.1 W.sum = some i) : ∃ j, highI s.1 W.sum = some j := by
  cases hh : highI s.1 W.sum with
  | some j => exact ⟨j, rfl⟩
  | none =>
    obtain ⟨hil, hlt, _⟩ := lowI_some.1 hi
    have := (sum_high (highI_none.1 hh)).2 (by rw [h.l1]; exact h.sum) _ (List.getElem_mem hil)
    omega
def insAt (j : Nat) (l : List Nat) : List Nat := l.takeWhile (fun x => decide (x < j)) ++ [j] ++ l.dropWhile (fun x => decide (x < j))
theorem insAt_mem (j : Nat) (l : List Nat) (i : Nat) : i ∈ insAt j l ↔ i = j ∨ i ∈ l := by
  have h : l.takeWhile (fun x => decide (x < j)) ++ l.dropWhile (fun x => decide (x < j)) = l := List.takeWhile_append_dropWhile
  unfold insAt
  constructor
  · intro hi
    rcases List.mem_append.1 hi with hi | hi
    · rcases List.mem_append.1 hi with hi | hi
      · exact .inr (by rw [← h]; exact List.mem_append_left _ hi)
      · exact .inl (List.mem_singleton.1 hi)
    · exact .inr (by rw [← h]; exact List.mem_append_right _ hi)
  · rintro (rfl | hi)
    · simp
    · rw [← h] at hi
      rcases List.mem_append.1 hi with hi | hi
      · exact List.mem_append_left _ (List.mem_append_left _ hi)
      · exact List.mem_append_right _ hi
theorem insAt_rise {j : Nat} : ∀ {l : List Nat}, l.Pairwise (· < ·) → j ∉ l → (insAt j l).Pairwise (· < ·)
  | [], _, _ => by simp [insAt]
  | x :: l, h, hn => by
    obtain ⟨h1, h2⟩ := List.pairwise_cons.1 h
    have hxj : x ≠ j := fun e => hn (by simp [e])
    by_cases hx : x < j
    · have e : insAt j (x :: l) = x :: insAt j l := by
        unfold insAt
        rw [List.takeWhile_cons_of_pos (by simpa using hx), List.dropWhile_cons_of_pos (by simpa using hx)]; simp
      rw [e]
      refine List.pairwise_cons.2 ⟨fun y hy => ?_, insAt_rise h2 (fun hm => hn (by simp [hm]))⟩
      rcases (insAt_mem j l y).1 hy with rfl | hy
      · exact hx
      · exact h1 y hy
    · have e : insAt j (x :: l) = j :: x :: l := by
        unfold insAt
        rw [List.takeWhile_cons_of_neg (by simpa using hx), List.dropWhile_cons_of_neg (by simpa using hx)]; simp
      rw [e]
      refine List.pairwise_cons.2 ⟨fun y hy => ?_, h⟩
      rcases List.mem_cons.1 hy with rfl | hy
      · omega
      · have := h1 y hy; omega
theorem PInv.turn {w i j : Nat} {L rest : List Nat} {rich v : Nat} (h : PInv w L (i :: rest) rich) (hi : i < L.length) (hj : j < L.length) (hij : i ≠ j) (hlo : L[i] < w) (hhi : w < L[j]) (hb : ∀ k (hk : k < L.length), k < j → L[k] ≤ w) :
    PInv w ((L.set j v).set i w) (if v < w then insAt j rest else rest) j := by
  obtain ⟨h1, h2⟩ := List.pairwise_cons.1 h.rise
  have hir : i ∉ rest := fun e => by have := h1 i e; omega
  have hjr : j ∉ rest := fun e => by
    obtain ⟨_, h3⟩ := (h.mem j).1 (by simp [e])
    omega
  have hmr : ∀ k, k ∈ rest ↔ k ≠ i ∧ ∃ hk : k < L.length, L[k] < w := fun k => by
    constructor
    · intro hk
      exact ⟨fun e => hir (e ▸ hk), (h.mem k).1 (by simp [hk])⟩
    · rintro ⟨hne, hk⟩
      exact (List.mem_cons.1 ((h.mem k).2 hk)).resolve_left hne
  have hget : ∀ k (hk : k < L.length), ((L.set j v).set i w)[k]'(by simp; exact hk) = if k = i then w else if k = j then v else L[k] := fun k hk => by
    rw [List.getElem_set]
    by_cases e : k = i
    · rw [if_pos e.symm, if_pos e]
    · rw [if_neg (fun x => e x.symm), if_neg e, List.getElem_set]
      by_cases e2 : k = j
      · rw [if_pos e2.symm, if_pos e2]
      · rw [if_neg (fun x => e2 x.symm), if_neg e2]
  refine ⟨?_, fun k => ?_, fun k hk hkj => ?_⟩
  · split
    · exact insAt_rise h2 hjr
    · exact h2
  · have hR : (∃ hk : k < ((L.set j v).set i w).length, ((L.set j v).set i w)[k] < w) ↔ ∃ hk : k < L.length, (if k = i then w else if k = j then v else L[k]) < w := by
      constructor
      · rintro ⟨hk, h3⟩
        have hk' : k < L.length := by simpa using hk
        exact ⟨hk', by rw [← hget k hk']; exact h3⟩
      · rintro ⟨hk, h3⟩
        exact ⟨by simpa using hk, by rw [hget k hk]; exact h3⟩
    rw [hR]
    by_cases hv : v < w
    · rw [if_pos hv, insAt_mem, hmr]
      constructor
      · rintro (rfl | ⟨hne, hk, h3⟩)
        · exact ⟨hj, by rw [if_neg (fun e => hij e.symm), if_pos rfl]; exact hv⟩
        · refine ⟨hk, ?_⟩
          rw [if_neg hne]
          split
          · exact hv
          · exact h3
      · rintro ⟨hk, h3⟩
        by_cases e : k = j
        · exact .inl e
        · by_cases e2 : k = i
          · rw [if_pos e2] at h3; omega
          · rw [if_neg e2, if_neg e] at h3
            exact .inr ⟨e2, hk, h3⟩
    · rw [if_neg hv, hmr]
      constructor
      · rintro ⟨hne, hk, h3⟩
        refine ⟨hk, ?_⟩
        rw [if_neg hne]
        split
        · rename_i e; subst e; omega
        · exact h3
      · rintro ⟨hk, h3⟩
        by_cases e2 : k = i
        · rw [if_pos e2] at h3; omega
        · rw [if_neg e2] at h3
          by_cases e : k = j
          · rw [if_pos e] at h3; omega
          · rw [if_neg e] at h3
            exact ⟨e2, hk, h3⟩
  · have hk' : k < L.length := by simpa using hk
    rw [hget k hk']
    split
    · exact Nat.le_refl _
    · rw [if_neg (by omega)]
      exact hb k hk' hkj
theorem PInv.start {w : Nat} (L : List Nat) : PInv w L ((List.range L.length).filter (fun i => decide (gN L i < w))) 0 := by
  refine ⟨List.Pairwise.filter _ List.pairwise_lt_range, fun i => ?_, fun k _ h => by omega⟩
  rw [List.mem_filter, List.mem_range, decide_eq_true_eq]
  constructor
  · rintro ⟨h1, h2⟩; rw [gN_get h1] at h2; exact ⟨h1, h2⟩
  · rintro ⟨h1, h2⟩; exact ⟨h1, by rw [gN_get h1]; exact h2⟩
end Go.Proofs.YtcklfffeimnfeaaGreat

namespace Go.Proofs.YtcklfffeimnfeaaGreat

def be4 (n : Nat) : List UInt8 := [UInt8.ofNat (n / 16777216), UInt8.ofNat (n / 65536), UInt8.ofNat (n / 256), UInt8.ofNat n]
def key3 (a b c : Nat) : List UInt8 := be4 a ++ be4 b ++ be4 c
/-- a number of bytes -/
def num4 (l : List UInt8) : Nat := l.foldl (fun n c => n * 256 + c.toNat) 0
def keyOf (l : List UInt8) : Nat × Nat × Nat := (num4 (l.take 4), num4 ((l.drop 4).take 4), num4 ((l.drop 8).take 4))
theorem u8n (n : Nat) : (UInt8.ofNat n).toNat = n % 256 := by simp
theorem num4_be4 (n : Nat) (h : n < 4294967296) : num4 (be4 n) = n := by
  simp only [num4, be4, List.foldl_cons, List.foldl_nil, u8n]; omega
theorem keyOf_key3 (a b c : Nat) (ha : a < 4294967296) (hb : b < 4294967296) (hc : c < 4294967296) : keyOf (key3 a b c) = (a, b, c) := by
  unfold keyOf
  rw [show (key3 a b c).take 4 = be4 a from rfl, show ((key3 a b c).drop 4).take 4 = be4 b from rfl, show ((key3 a b c).drop 8).take 4 = be4 c from rfl, num4_be4 a ha, num4_be4 b hb, num4_be4 c hc]
theorem be4_num4 (a b c d : UInt8) : be4 (num4 [a, b, c, d]) = [a, b, c, d] := by
  have h1 := a.toNat_lt; have h2 := b.toNat_lt; have h3 := c.toNat_lt; have h4 := d.toNat_lt
  simp only [num4, be4, List.foldl_cons, List.foldl_nil]
  simp only [List.cons.injEq, and_true, ← UInt8.toNat_inj, u8n]
  omega
theorem num4_lt (a b c d : UInt8) : num4 [a, b, c, d] < 4294967296 := by
  have h1 := a.toNat_lt; have h2 := b.toNat_lt; have h3 := c.toNat_lt; have h4 := d.toNat_lt
  simp only [num4, List.foldl_cons, List.foldl_nil]; omega
theorem twelve (l : List UInt8) (h : l.length = 12) : ∃ a b c d e f g i j k m n, l = [a, b, c, d, e, f, g, i, j, k, m, n] := by
  match l, h with
  | [a, b, c, d, e, f, g, i, j, k, m, n], _ => exact ⟨a, b, c, d, e, f, g, i, j, k, m, n, rfl⟩
theorem key3_keyOf (l : List UInt8) (h : l.length = 12) : key3 (keyOf l).1 (keyOf l).2.1 (keyOf l).2.2 = l ∧ (keyOf l).1 < 4294967296 ∧ (keyOf l).2.1 < 4294967296 ∧ (keyOf l).2.2 < 4294967296 := by
  obtain ⟨a, b, c, d, e, f, g, i, j, k, m, n, rfl⟩ := twelve l h
  refine ⟨?_, num4_lt a b c d, num4_lt e f g i, num4_lt j k m n⟩
  show be4 (num4 [a, b, c, d]) ++ be4 (num4 [e, f, g, i]) ++ be4 (num4 [j, k, m, n]) = _
  rw [be4_num4, be4_num4, be4_num4]; rfl
/-- of two keys the lower one is that of the lower numbers -/
theorem be4_lt (a b : Nat) (r s : List UInt8) (ha : a < 4294967296) (hb : b < 4294967296) : (be4 a ++ r < be4 b ++ s) ↔ (a < b ∨ (a = b ∧ r < s)) := by
  simp only [be4, List.cons_append, List.nil_append, List.cons_lt_cons_iff, UInt8.lt_iff_toNat_lt, ← UInt8.toNat_inj, u8n]
  have dig : ∀ n : Nat, n < 4294967296 → n / 16777216 % 256 < 256 ∧ n / 65536 % 256 < 256 ∧ n / 256 % 256 < 256 ∧ n % 256 < 256 ∧ n = n / 16777216 % 256 * 16777216 + n / 65536 % 256 * 65536 + n / 256 % 256 * 256 + n % 256 := by
    intro n hn
    have p1 : n / 256 / 256 = n / 65536 := by rw [Nat.div_div_eq_div_mul]
    have p2 : n / 65536 / 256 = n / 16777216 := by rw [Nat.div_div_eq_div_mul]
    omega
  have da := dig a ha
  have db := dig b hb
  generalize a / 16777216 % 256 = a3 at *
  generalize a / 65536 % 256 = a2 at *
  generalize a / 256 % 256 = a1 at *
  generalize a % 256 = a0 at *
  generalize b / 16777216 % 256 = b3 at *
  generalize b / 65536 % 256 = b2 at *
  generalize b / 256 % 256 = b1 at *
  generalize b % 256 = b0 at *
  clear dig
  constructor
  · rintro (h | ⟨h1, (h | ⟨h2, (h | ⟨h3, (h | ⟨h4, h⟩)⟩)⟩)⟩)
    · left; omega
    · left; omega
    · left; omega
    · left; omega
    · right; exact ⟨by omega, h⟩
  · rintro (h | ⟨h0, h⟩)
    · by_cases h1 : a3 < b3
      · exact .inl h1
      · right
        refine ⟨by omega, ?_⟩
        by_cases h2 : a2 < b2
        · exact .inl h2
        · right
          refine ⟨by omega, ?_⟩
          by_cases h3 : a1 < b1
          · exact .inl h3
          · exact .inr ⟨by omega, .inl (by omega)⟩
    · exact .inr ⟨by omega, .inr ⟨by omega, .inr ⟨by omega, .inr ⟨by omega, h⟩⟩⟩⟩
theorem key3_lt (a b c x y z : Nat) (ha : a < 4294967296) (hb : b < 4294967296) (hc : c < 4294967296) (hx : x < 4294967296) (hy : y < 4294967296) (hz : z < 4294967296) :
    (key3 a b c < key3 x y z) ↔ (a < x ∨ (a = x ∧ (b < y ∨ (b = y ∧ c < z)))) := by
  unfold key3
  rw [List.append_assoc, List.append_assoc, be4_lt _ _ _ _ ha hx, be4_lt _ _ _ _ hb hy]
  have := be4_lt c z [] [] hc hz
  simp only [List.append_nil, List.lt_irrefl, and_false, or_false] at this
  rw [this]
end Go.Proofs.YtcklfffeimnfeaaGreat
