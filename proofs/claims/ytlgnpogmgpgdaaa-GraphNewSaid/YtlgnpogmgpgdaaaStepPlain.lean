/- A walker's move. No program in sight. -/
import Derived.Test.YtlgnpogmgpgdaaaArc
import Derived.Test.YtlgnpogmgpgdaaaWkMay
import Derived.Test.YtlgnpogmgpgdaaaMixBelow
namespace Go.Proofs.Ytlgnpogmgpgdaaa
set_option linter.unusedSimpArgs false
set_option linter.unusedVariables false
set_option maxRecDepth 100000
open Go.RowKit

/-- neighbours -/
def mayA (l : List ArcD) : Bool := decide ((∀ a ∈ l, 0 < a.2) ∧ l.Pairwise (fun a b => a.1 < b.1) ∧ sumA l ≤ 2147483647)
def badA (l : List ArcD) (i : Nat) : Prop := ∃ h : i < l.length, l[i].2 = 0 ∨ ∃ h0 : 0 < i, l[i].1 ≤ (l[i - 1]'(by omega)).1
theorem mayA_bad {l : List ArcD} {i : Nat} (h : badA l i) : mayA l = false := by
  obtain ⟨hi, h⟩ := h
  refine decide_eq_false (fun ⟨h1, h2, _⟩ => ?_)
  rcases h with h | ⟨h0, h⟩
  · have := h1 l[i] (List.getElem_mem hi); omega
  · have := List.pairwise_iff_getElem.1 h2 (i - 1) i (by omega) hi (by omega); omega
theorem pairwise_adj {l : List ArcD} (h : ∀ i (hi : i < l.length) (h0 : 0 < i), (l[i - 1]'(by omega)).1 < l[i].1) : l.Pairwise (fun a b => a.1 < b.1) := by
  refine List.pairwise_iff_getElem.2 (fun i j hi hj hij => ?_)
  obtain ⟨d, rfl⟩ : ∃ d, j = i + 1 + d := ⟨j - i - 1, by omega⟩
  clear hij
  induction d with
  | zero => have := h (i + 1) hj (by omega); simpa using this
  | succ d ih =>
    have h1 := ih (by omega)
    have h2 := h (i + 1 + (d + 1)) hj (by omega)
    have e : l[i + 1 + (d + 1) - 1]'(by omega) = l[i + 1 + d]'(by omega) := by congr 1
    rw [e] at h2
    omega
theorem mayA_good {l : List ArcD} (h : ∀ i, i < l.length → ¬ badA l i) : mayA l = decide (sumA l ≤ 2147483647) := by
  unfold mayA
  have h1 : ∀ a ∈ l, 0 < a.2 := fun a ha => by
    obtain ⟨i, hi, rfl⟩ := List.mem_iff_getElem.1 ha
    have := h i hi
    unfold badA at this
    have h2 : l[i].2 ≠ 0 := fun e => this ⟨hi, .inl e⟩
    omega
  have h2 := pairwise_adj (l := l) (fun i hi h0 => by
    have := h i hi
    have h3 : ¬ l[i].1 ≤ (l[i - 1]'(by omega)).1 := fun e => this ⟨hi, .inr ⟨h0, e⟩⟩
    omega)
  rw [Bool.eq_iff_iff]
  simp only [decide_eq_true_eq]
  exact ⟨fun h => h.2.2, fun h => ⟨h1, h2, h⟩⟩

abbrev CellD := Nat × Nat
/-- a draw of a walker -/
def drwN (j : JobD) (x : WkD) (att n : Nat) : Nat := (belowZ (drawZ j.seed x.id x.step att) n).toNat
theorem drwN_lt (j : JobD) (x : WkD) (att n : Nat) (hn : 0 < n) : drwN j x att n < n := by
  have h := belowZ_lt (drawZ j.seed x.id x.step att) n (by omega)
  unfold drwN
  omega
def weightN (p q : Nat) (back near : Bool) : Nat := if back then q else if near then p * q else p
def totalM (l : List ArcD) : Nat := if mayA l then sumA l * l.length else 0
def aliasM (l : List ArcD) (t : List CellD) (x : Nat) : Option Nat :=
  if l.length ≠ t.length ∨ totalM l ≤ x then none
  else if x % sumA l < t[x / sumA l]!.1 then some (x / sumA l)
  else if t[x / sumA l]!.2 < l.length then some t[x / sumA l]!.2 else none
def stepsM (j : JobD) (x : WkD) (tv : Nat) : WkD × Nat := (⟨x.id, (x.step + 1) % 4294967296, tv, if j.kind = 2 then x.at_ else 0, 0, 0, 0⟩, 2)
def lostM (j : JobD) (x : WkD) : WkD × Nat := if x.try_ + 1 = j.tries then (x, 0) else (⟨x.id, x.step, x.at_, x.prev, 0, x.try_ + 1, 0⟩, 1)
def nearM (l : List ArcD) (tv : Nat) : Bool := l.any (fun a => a.1 == tv)
def acceptsM (j : JobD) (x : WkD) (tv : Nat) (near : Bool) : Bool := decide (drwN j x (2 * x.try_) (j.p * j.q) < weightN j.p j.q (tv == x.prev) near)
def restartsM (j : JobD) (x : WkD) : Bool := decide (j.kind = 1) && decide (drwN j x 0 j.od < j.stop)
def takeM (j : JobD) (x : WkD) (tv : Nat) : WkD × Nat :=
  if j.kind = 2 ∧ 0 < x.step then
    (if acceptsM j x tv true = acceptsM j x tv false then (if acceptsM j x tv true then stepsM j x tv else lostM j x) else ({ x with next := tv, state := 1 }, 1))
  else stepsM j x tv
def moveM (j : JobD) (x : WkD) (l : List ArcD) (t : List CellD) : WkD × Nat :=
  if !mayW j x || !mayA l then (x, 0)
  else if x.state = 1 then (if acceptsM j x x.next (nearM l x.next) then stepsM j x x.next else lostM j x)
  else if x.step = j.length ∨ l = [] then (x, 0)
  else if restartsM j x then stepsM j x j.src[srcN j x.id]!
  else match aliasM l t (drwN j x (2 * x.try_ + 1) (totalM l)) with
    | none => (x, 0)
    | some i => takeM j x l[i]!.1

/-! ### who may be -/
structure MayW (j : JobD) (x : WkD) : Prop where
  src : srcH j x.id = true
  step : x.step ≤ j.length
  try_ : x.try_ < j.tries
  zero : x.step = 0 → x.prev = 0 ∧ x.try_ = 0 ∧ x.state = 0
  first : j.kind ≠ 2 → x.prev = 0 ∧ x.try_ = 0 ∧ x.state = 0
  state : (x.state = 0 ∧ x.next = 0) ∨ (x.state = 1 ∧ j.kind = 2 ∧ x.step < j.length ∧ 0 < x.step)
theorem mayW_dest {j : JobD} {x : WkD} (h : mayW j x = true) : MayW j x := by
  unfold mayW at h
  split at h
  · cases h
  rename_i h1
  have hs : srcH j x.id = true := by
    cases e : srcH j x.id with
    | true => rfl
    | false => exact absurd (.inl e) h1
  have h1a : ¬ j.length < x.step := fun e => h1 (.inr (.inl e))
  have h1b : ¬ j.tries ≤ x.try_ := fun e => h1 (.inr (.inr e))
  split at h
  · rename_i h2
    have h3 : x = newJ j x.id := of_decide_eq_true h
    have h4 : newJ j x.id = ⟨x.id, 0, j.src[srcN j x.id]!, 0, 0, 0, 0⟩ := by unfold newJ; rw [if_pos (of_decide_eq_true hs)]
    rw [h4] at h3
    have a1 : x.prev = 0 := by rw [h3]
    have a2 : x.next = 0 := by rw [h3]
    have a3 : x.try_ = 0 := by rw [h3]
    have a4 : x.state = 0 := by rw [h3]
    exact ⟨hs, by omega, by omega, fun _ => ⟨a1, a3, a4⟩, fun _ => ⟨a1, a3, a4⟩, .inl ⟨a4, a2⟩⟩
  rename_i h2
  split at h
  · cases h
  rename_i h3
  split at h
  · rename_i h4
    exact ⟨hs, by omega, by omega, fun e => absurd e h2, fun e => by omega, .inl ⟨h4, of_decide_eq_true h⟩⟩
  · simp only [Bool.and_eq_true, decide_eq_true_eq] at h
    exact ⟨hs, by omega, by omega, fun e => absurd e h2, fun e => absurd h.2.1 e, .inr ⟨h.1, h.2.1, h.2.2, by omega⟩⟩
theorem mayW_mk {j : JobD} {x : WkD} (hs : srcH j x.id = true) (h1 : x.step ≤ j.length) (h2 : x.try_ < j.tries) (h3 : 0 < x.step) (h4 : j.kind = 2 ∨ (x.prev = 0 ∧ x.try_ = 0)) (h5 : (x.state = 0 ∧ x.next = 0) ∨ (x.state = 1 ∧ j.kind = 2 ∧ x.step < j.length)) : mayW j x = true := by
  unfold mayW
  rw [if_neg (by rw [hs]; simp; omega), if_neg (by omega), if_neg (by omega)]
  rcases h5 with ⟨a, b⟩ | ⟨a, b, c⟩
  · rw [if_pos a]; exact decide_eq_true b
  · rw [if_neg (by omega)]; simp [a, b, c]
theorem mayW_job {j : JobD} {x : WkD} (h : mayW j x = true) : mayJ j = true := (srcH_walks (of_decide_eq_true (mayW_dest h).src)).1
theorem mayJ_small {j : JobD} (h : mayJ j = true) : j.length ≤ 65536 ∧ j.tries ≤ 1024 ∧ 1 ≤ j.tries ∧ j.p ≤ 65536 ∧ j.q ≤ 65536 ∧ 1 ≤ j.p ∧ 1 ≤ j.q ∧ 1 ≤ j.od ∧ j.src.length ≤ 256 := by
  simp only [mayJ, walkB, secB, srcB, inB, Bool.and_eq_true, decide_eq_true_eq] at h
  omega
/-- what a move leaves -/
def MoveOk (j : JobD) (x : WkD) (r : WkD × Nat) : Prop :=
  (r.2 = 0 ∧ r.1 = x) ∨
  (r.2 = 1 ∧ mayW j r.1 = true ∧ r.1.id = x.id ∧ r.1.step = x.step ∧ r.1.at_ = x.at_ ∧ r.1.prev = x.prev ∧ ((r.1.try_ = x.try_ + 1 ∧ r.1.state = 0) ∨ (r.1.try_ = x.try_ ∧ x.state = 0 ∧ r.1.state = 1))) ∨
  (r.2 = 2 ∧ mayW j r.1 = true ∧ r.1.id = x.id ∧ r.1.step = x.step + 1 ∧ r.1.try_ = 0 ∧ r.1.state = 0)
theorem steps_ok {j : JobD} {x : WkD} (h : mayW j x = true) (hl : x.step < j.length) (tv : Nat) : MoveOk j x (stepsM j x tv) := by
  have d := mayW_dest h
  have hm := mayJ_small (mayW_job h)
  have e : (x.step + 1) % 4294967296 = x.step + 1 := Nat.mod_eq_of_lt (by omega)
  refine .inr (.inr ⟨rfl, ?_, rfl, e, rfl, rfl⟩)
  unfold stepsM
  refine mayW_mk d.src ?_ (by simp only; omega) ?_ ?_ (.inl ⟨rfl, rfl⟩)
  · simp only [e]; omega
  · simp only [e]; omega
  · by_cases hk : j.kind = 2
    · exact .inl hk
    · exact .inr ⟨if_neg hk, rfl⟩
theorem lost_ok {j : JobD} {x : WkD} (h : mayW j x = true) (hk : j.kind = 2) (h0 : 0 < x.step) : MoveOk j x (lostM j x) := by
  have d := mayW_dest h
  have := d.try_
  unfold lostM
  split
  · exact .inl ⟨rfl, rfl⟩
  · refine .inr (.inl ⟨rfl, mayW_mk d.src d.step (by simp only; omega) h0 (.inl hk) (.inl ⟨rfl, rfl⟩), rfl, rfl, rfl, rfl, .inl ⟨rfl, rfl⟩⟩)
theorem move_ok (j : JobD) (x : WkD) (l : List ArcD) (t : List CellD) : MoveOk j x (moveM j x l t) := by
  unfold moveM
  split
  · exact .inl ⟨rfl, rfl⟩
  rename_i h
  have hm : mayW j x = true := by
    cases e : mayW j x with
    | true => rfl
    | false => rw [e] at h; simp at h
  have d := mayW_dest hm
  split
  · rename_i hs
    rcases d.state with ⟨a, _⟩ | ⟨_, hk, hl, h0⟩
    · omega
    split
    · exact steps_ok hm hl _
    · exact lost_ok hm hk h0
  rename_i hs
  have hs0 : x.state = 0 ∧ x.next = 0 := by rcases d.state with a | a; exact a; exact absurd a.1 hs
  split
  · exact .inl ⟨rfl, rfl⟩
  rename_i hl
  have hl2 : x.step < j.length := by have := d.step; omega
  split
  · exact steps_ok hm hl2 _
  split
  · exact .inl ⟨rfl, rfl⟩
  unfold takeM
  split
  · rename_i hk
    split
    · split
      · exact steps_ok hm hl2 _
      · exact lost_ok hm hk.1 hk.2
    · refine .inr (.inl ⟨rfl, mayW_mk d.src d.step d.try_ hk.2 (.inl hk.1) (.inr ⟨rfl, hk.1, hl2⟩), rfl, rfl, rfl, rfl, .inr ⟨rfl, hs0.1, rfl⟩⟩)
  · exact steps_ok hm hl2 _
/-- with longer walks -/
theorem walkers_same {j k : JobD} (h1 : mayJ j = true) (h2 : mayJ k = true) (hs : k.src = j.src) (hw : k.walks = j.walks) : walkersJ k = walkersJ j := by
  unfold walkersJ; rw [h1, h2, hs, hw]
theorem newJ_same {j k : JobD} (h1 : mayJ j = true) (h2 : mayJ k = true) (hs : k.src = j.src) (hw : k.walks = j.walks) (id : Nat) : newJ k id = newJ j id ∧ srcH k id = srcH j id ∧ srcN k id = srcN j id := by
  have h := walkers_same h1 h2 hs hw
  refine ⟨?_, ?_, ?_⟩
  · unfold newJ srcN; rw [h, hs, hw]
  · unfold srcH; rw [h]
  · unfold srcN; rw [h, hw]
structure SameJ (j k : JobD) : Prop where
  kind : k.kind = j.kind
  seed : k.seed = j.seed
  walks : k.walks = j.walks
  src : k.src = j.src
  stop : k.stop = j.stop
  od : k.od = j.od
  p : k.p = j.p
  q : k.q = j.q
  tries : k.tries = j.tries
theorem move_same {j k : JobD} (h1 : mayJ j = true) (h2 : mayJ k = true) (s : SameJ j k) {x : WkD} (hl : x.step < j.length) (hk : j.length < k.length) (l : List ArcD) (t : List CellD) : moveM k x l t = moveM j x l t := by
  obtain ⟨n1, n2, n3⟩ := newJ_same h1 h2 s.src s.walks x.id
  have hm : mayW k x = mayW j x := by
    unfold mayW
    rw [n1, n2, s.tries, s.kind]
    have e1 : (k.length < x.step) = (j.length < x.step) := by rw [eq_iff_iff]; omega
    have e2 : decide (x.step < k.length) = decide (x.step < j.length) := by rw [Bool.eq_iff_iff]; simp only [decide_eq_true_eq]; omega
    simp only [e1, e2]
  have hd : ∀ a n, drwN k x a n = drwN j x a n := fun a n => by unfold drwN; rw [s.seed]
  have ha : ∀ tv nr, acceptsM k x tv nr = acceptsM j x tv nr := fun tv nr => by unfold acceptsM; rw [hd, s.p, s.q]
  have hst : ∀ tv, stepsM k x tv = stepsM j x tv := fun tv => by unfold stepsM; rw [s.kind]
  have hlo : lostM k x = lostM j x := by unfold lostM; rw [s.tries]
  have hr : restartsM k x = restartsM j x := by unfold restartsM; rw [hd, s.kind, s.stop, s.od]
  have ht : ∀ tv, takeM k x tv = takeM j x tv := fun tv => by unfold takeM; rw [s.kind, ha, ha, hst, hlo]
  have hz : (x.step = k.length ∨ l = []) = (x.step = j.length ∨ l = []) := by
    rw [eq_iff_iff]
    constructor <;> rintro (h | h)
    · omega
    · exact .inr h
    · omega
    · exact .inr h
  unfold moveM
  rw [hm, ha, hst, hlo, hr, s.src, n3, hst, hd]
  simp only [ht, hz]
/-- the fixed walk -/
theorem move_fixed {j : JobD} {x : WkD} {l : List ArcD} {t : List CellD} (hm : mayW j x = true) (ha : mayA l = true) (hk : j.kind = 0) (ht : t.length = l.length) (hc : ∀ c ∈ t, c.2 < l.length) :
    (x.step = j.length ∨ l = [] → moveM j x l t = (x, 0)) ∧ (¬ (x.step = j.length ∨ l = []) → (moveM j x l t).2 = 2 ∧ ∃ i, ∃ h : i < l.length, l[i].1 = (moveM j x l t).1.at_) := by
  have d := mayW_dest hm
  have hs : x.state = 0 := (d.first (by omega)).2.2
  unfold moveM
  rw [hm, ha, if_neg (by simp), if_neg (by omega)]
  refine ⟨fun h => by rw [if_pos h], fun h => ?_⟩
  rw [if_neg h]
  have hr : restartsM j x = false := by unfold restartsM; simp [hk]
  rw [hr, if_neg (by simp)]
  have hl : 0 < l.length := by
    cases l with
    | nil => exact absurd (.inr rfl) h
    | cons a l => simp
  have h1 := (of_decide_eq_true ha)
  have hsum : 0 < sumA l := by
    have := h1.1 l[0] (List.getElem_mem hl)
    have h2 := sumA_take l 0 hl
    have h3 : ∀ n, sumA (l.take n) ≤ sumA l := fun n => by
      unfold sumA
      conv => rhs; rw [← List.take_append_drop n l]
      rw [List.map_append, List.sum_append]
      omega
    have := h3 (0 + 1)
    omega
  have htot : totalM l = sumA l * l.length := by unfold totalM; rw [if_pos ha]
  have hx := drwN_lt j x (2 * x.try_ + 1) (totalM l) (by rw [htot]; exact Nat.mul_pos hsum hl)
  generalize drwN j x (2 * x.try_ + 1) (totalM l) = X at *
  have hX : X / sumA l < l.length := by
    rw [Nat.div_lt_iff_lt_mul hsum, Nat.mul_comm]
    rw [htot] at hx; exact hx
  have hal : ∃ i, i < l.length ∧ aliasM l t X = some i := by
    unfold aliasM
    rw [if_neg (by omega)]
    split
    · exact ⟨_, hX, rfl⟩
    · have hi : t[X / sumA l]!.2 < l.length := by
        rw [getElem!_pos t _ (by omega)]
        exact hc _ (List.getElem_mem _)
      rw [if_pos hi]
      exact ⟨_, hi, rfl⟩
  obtain ⟨i, hi, e⟩ := hal
  rw [e]
  simp only
  unfold takeM
  rw [if_neg (by omega)]
  refine ⟨rfl, i, hi, ?_⟩
  simp only [stepsM]
  rw [getElem!_pos l i hi]
end Go.Proofs.Ytlgnpogmgpgdaaa
