/- Texts merged into one: JobPlain, JobText, JobNumsP, JobNums. -/
import Derived.Test.YtmflopeedofkhaaByRep
import Derived.Test.YtmflopeedofkhaaByText
import Derived.Test.YtmflopeedofkhaaProg
namespace Go.Proofs.Ytmflopeedofkhaa
set_option linter.unusedSimpArgs false
set_option linter.unusedVariables false
set_option maxRecDepth 100000
open Go.RowKit

structure JobD where
  kind : Nat
  seed : Nat
  length : Nat
  walks : Nat
  src : List Nat
  stop : Nat
  od : Nat
  p : Nat
  q : Nat
  tries : Nat
  best : Nat
  bsh : Nat
  bro : Nat
  bpo : Nat
  bso : Nat
structure JobOk (j : JobD) : Prop where
  kind : j.kind < 256
  seed : j.seed < 18446744073709551616
  length : j.length < 4294967296
  walks : j.walks < 4294967296
  src : ∀ x ∈ j.src, x < 4294967296
  stop : j.stop < 4294967296
  od : j.od < 4294967296
  p : j.p < 4294967296
  q : j.q < 4294967296
  tries : j.tries < 4294967296
  best : j.best < 4294967296
  bsh : j.bsh < 4294967296
  bro : j.bro < 4294967296
  bpo : j.bpo < 4294967296
  bso : j.bso < 4294967296
/-- a job's cells -/
def jobCs (j : JobD) (ao : Option Addr) (cap : Nat) : Array Value :=
  #[.int .u8 (j.kind : Nat), .int .u64 (j.seed : Nat), .int .u32 (j.length : Nat), .int .u32 (j.walks : Nat), .slice ao j.src.length cap, .int .u32 (j.stop : Nat), .int .u32 (j.od : Nat), .int .u32 (j.p : Nat), .int .u32 (j.q : Nat),
    .int .u32 (j.tries : Nat), .int .u32 (j.best : Nat), .int .u32 (j.bsh : Nat), .int .u32 (j.bro : Nat), .int .u32 (j.bpo : Nat), .int .u32 (j.bso : Nat)]
/-- the numbers of a job, by their cells -/
def jobC (j : JobD) : Nat → Nat
  | 2 => j.length
  | 3 => j.walks
  | 5 => j.stop
  | 6 => j.od
  | 7 => j.p
  | 8 => j.q
  | 9 => j.tries
  | 10 => j.best
  | 11 => j.bsh
  | 12 => j.bro
  | 13 => j.bpo
  | 14 => j.bso
  | _ => 0
/-- by words: cells, least and greatest numbers -/
def numTab : List (List UInt8 × List (Nat × Nat × Nat)) :=
  [([108, 101, 110, 103, 116, 104], [(2, 0, 65536)]),
   ([119, 97, 108, 107, 115], [(3, 1, 65536)]),
   ([114, 101, 115, 116, 97, 114, 116], [(5, 0, 4294967295), (6, 1, 4294967295)]),
   ([98, 105, 97, 115], [(7, 1, 65536), (8, 1, 65536)]),
   ([116, 114, 105, 101, 115], [(9, 1, 1024)]),
   ([98, 101, 115, 116], [(10, 0, 1024)]),
   ([115, 104, 97, 114, 100], [(11, 1, 65536)]),
   ([114, 111, 111, 109], [(12, 1, 16777216)]),
   ([112, 111, 111, 108], [(13, 2, 65536)]),
   ([115, 111, 114, 116], [(14, 1, 4096)])]
def inB (n a b : Nat) : Bool := decide (a ≤ n ∧ n ≤ b)
def allNums (j : JobD) : Bool := numTab.all (fun e => e.2.all (fun x => inB (jobC j x.1) x.2.1 x.2.2))
def walkB (j : JobD) : Bool := decide (j.kind ≤ 2) && inB j.length 0 65536 && inB j.walks 1 65536 && decide (1 ≤ j.od) && decide (j.stop ≤ j.od)
def secB (j : JobD) : Bool := inB j.p 1 65536 && inB j.q 1 65536 && inB j.tries 1 1024 && decide (j.best ≤ 1024)
def budB (j : JobD) : Bool := inB j.bsh 1 65536 && inB j.bro 1 16777216 && inB j.bpo 2 65536 && inB j.bso 1 4096
def srcB (l : List Nat) : Bool := decide (1 ≤ l.length) && decide (l.length ≤ 256) && decide l.Nodup
/-- may a job be? -/
def mayJ (j : JobD) : Bool := walkB j && secB j && budB j && srcB j.src
theorem mayJ_nums {j : JobD} (h : JobOk j) : mayJ j = (decide (j.kind < 3) && decide (j.stop ≤ j.od) && decide (0 < j.src.length) && decide (j.src.length ≤ 256) && allNums j && decide j.src.Nodup) := by
  have h1 := h.od
  have h2 := h.stop
  rw [Bool.eq_iff_iff]
  simp only [mayJ, walkB, secB, budB, srcB, allNums, numTab, inB, jobC, List.all_cons, List.all_nil, Bool.and_true, Bool.and_eq_true, decide_eq_true_eq]
  constructor
  · rintro ⟨⟨⟨⟨⟨⟨⟨a1, a2⟩, a3⟩, a4⟩, a5⟩, ⟨⟨b1, b2⟩, b3⟩, b4⟩, ⟨⟨c1, c2⟩, c3⟩, c4⟩, ⟨d1, d2⟩, d3⟩
    refine ⟨⟨⟨⟨⟨by omega, a5⟩, by omega⟩, d2⟩, ?_⟩, d3⟩
    refine ⟨a2, a3, ⟨⟨by omega, by omega⟩, a4, by omega⟩, ⟨b1, b2⟩, b3, ⟨by omega, b4⟩, c1, c2, c3, c4⟩
  · rintro ⟨⟨⟨⟨⟨a1, a5⟩, d1⟩, d2⟩, ⟨a2, a3, ⟨x1, a4, x2⟩, ⟨b1, b2⟩, b3, ⟨x3, b4⟩, c1, c2, c3, c4⟩⟩, d3⟩
    exact ⟨⟨⟨⟨⟨⟨⟨by omega, a2⟩, a3⟩, a4⟩, a5⟩, ⟨⟨b1, b2⟩, b3⟩, b4⟩, ⟨⟨c1, c2⟩, c3⟩, c4⟩, ⟨by omega, d2⟩, d3⟩
/-- how many walkers -/
def walkersJ (j : JobD) : Nat := if mayJ j then j.src.length * j.walks else 0
theorem walkersJ_le {j : JobD} (h : mayJ j = true) : j.src.length * j.walks ≤ 16777216 := by
  simp only [mayJ, walkB, srcB, inB, Bool.and_eq_true, decide_eq_true_eq] at h
  obtain ⟨⟨⟨⟨⟨⟨⟨a1, a2⟩, a3, a3'⟩, a4⟩, a5⟩, _⟩, _⟩, ⟨d1, d2⟩, d3⟩ := h
  calc j.src.length * j.walks ≤ 256 * 65536 := Nat.mul_le_mul d2 a3'
    _ = 16777216 := rfl
end Go.Proofs.Ytmflopeedofkhaa

namespace Go.Proofs.Ytmflopeedofkhaa
set_option linter.unusedSimpArgs false
set_option linter.unusedVariables false
set_option maxRecDepth 100000

abbrev W8 := List UInt8
def kWalk : W8 := [119, 97, 108, 107]
def kSeed : W8 := [115, 101, 101, 100]
def kSource : W8 := [115, 111, 117, 114, 99, 101]
def kindW : List W8 := [[102, 105, 120, 101, 100], [114, 101, 115, 116, 97, 114, 116], [115, 101, 99, 111, 110, 100]]
def kindOf (w : W8) : Option Nat := if w = kindW[0]! then some 0 else if w = kindW[1]! then some 1 else if w = kindW[2]! then some 2 else none
def zeroJ : JobD := ⟨0, 0, 0, 0, [], 0, 0, 0, 0, 0, 0, 0, 0, 0, 0⟩
def beginJ : JobD := ⟨0, 0, 10, 1, [], 0, 1, 1, 1, 100, 10, 1024, 4096, 64, 64⟩
/-- a number of a job, by its cell, anew -/
def setC (j : JobD) : Nat → Nat → JobD
  | 2, v => { j with length := v }
  | 3, v => { j with walks := v }
  | 5, v => { j with stop := v }
  | 6, v => { j with od := v }
  | 7, v => { j with p := v }
  | 8, v => { j with q := v }
  | 9, v => { j with tries := v }
  | 10, v => { j with best := v }
  | 11, v => { j with bsh := v }
  | 12, v => { j with bro := v }
  | 13, v => { j with bpo := v }
  | 14, v => { j with bso := v }
  | _, _ => j
def numL (w : W8) (least most : Nat) : Nat × Nat := if (num w most).2 = 0 ∧ (num w most).1 < least then (0, 9) else num w most
def takeC (j : JobD) : List (Nat × Nat × Nat) → List W8 → JobD × Nat
  | x :: cs, w :: ws => if (numL w x.2.1 x.2.2).2 ≠ 0 then (j, (numL w x.2.1 x.2.2).2) else takeC (setC j x.1 (numL w x.2.1 x.2.2).1) cs ws
  | _, _ => (j, 0)
def entryJ (k : W8) : List (Nat × Nat × Nat) := match numTab.find? (fun e => e.1 == k) with
  | some e => e.2
  | none => []
def wantsJ (k : W8) : Nat := if k = kWalk ∨ k = kSeed ∨ k = kSource then 1 else (entryJ k).length
def sourceJ (j : JobD) (w : W8) : JobD × Nat :=
  if (num w 4294967295).2 ≠ 0 then (j, (num w 4294967295).2) else if (num w 4294967295).1 ∈ j.src then (j, 13) else if j.src.length = 256 then (j, 4) else ({ j with src := j.src ++ [(num w 4294967295).1] }, 0)
def seedJ (j : JobD) (w : W8) : JobD × Nat := if (num w 18446744073709551615).2 ≠ 0 then (j, (num w 18446744073709551615).2) else ({ j with seed := (num w 18446744073709551615).1 }, 0)
def walkJ (j : JobD) (w : W8) : JobD × Nat := match kindOf w with
  | some n => ({ j with kind := n }, 0)
  | none => (j, 3)
def numsJ (j : JobD) (k : W8) (ws : List W8) : JobD × Nat :=
  if (takeC j (entryJ k) ws).2 ≠ 0 then takeC j (entryJ k) ws else if (takeC j (entryJ k) ws).1.od < (takeC j (entryJ k) ws).1.stop then ((takeC j (entryJ k) ws).1, 9) else ((takeC j (entryJ k) ws).1, 0)
/-- a line's words -/
def lineJ (j : JobD) (met : List W8) (k : W8) (ws : List W8) : JobD × Nat :=
  if wantsJ k = 0 ∨ wantsJ k ≠ ws.length then (j, 12)
  else if k ∈ met ∧ k ≠ kSource then (j, 13)
  else if k = kWalk then walkJ j ws[0]!
  else if k = kSeed then seedJ j ws[0]!
  else if k = kSource then sourceJ j ws[0]!
  else numsJ j k ws
/-- the lines from the n-th on -/
def readJGo : JobD → List W8 → Nat → List W8 → JobD × Nat × Nat
  | j, _, _, [] => if j.src = [] then (zeroJ, 0, 1) else (j, 0, 0)
  | j, met, n, s :: ls => match words s with
    | [] => readJGo j met (n + 1) ls
    | k :: ws => if k.head? = some 35 then readJGo j met (n + 1) ls
      else if (lineJ j met k ws).2 ≠ 0 then (zeroJ, n + 1, (lineJ j met k ws).2) else readJGo (lineJ j met k ws).1 (met ++ [k]) (n + 1) ls
def readJ (b : List UInt8) : JobD × Nat × Nat := readJGo beginJ [] 0 (lines b)

/-! ### what is read may be -/
structure InJ (j : JobD) : Prop where
  ok : JobOk j
  kind : j.kind < 3
  nums : allNums j = true
  le : j.stop ≤ j.od
  nodup : j.src.Nodup
  few : j.src.length ≤ 256
theorem inJ_may {j : JobD} (h : InJ j) (hs : j.src ≠ []) : mayJ j = true := by
  rw [mayJ_nums h.ok]
  have h0 : 0 < j.src.length := List.length_pos_iff.2 hs
  simp [h.kind, h.le, h0, h.few, h.nums, h.nodup]
theorem inJ_begin : InJ beginJ := by
  refine ⟨⟨?_, ?_, ?_, ?_, ?_, ?_, ?_, ?_, ?_, ?_, ?_, ?_, ?_, ?_, ?_⟩, ?_, ?_, ?_, ?_, ?_⟩ <;> decide
theorem num_le {w : W8} {most : Nat} (h : (num w most).2 = 0) : (num w most).1 ≤ most := by
  unfold num at h ⊢
  split at h
  · simp at h
  · rename_i h1
    rw [if_neg h1]
    split at h
    · simp at h
    · rename_i h2
      rw [if_neg h2]
      simp only; omega
theorem numL_in {w : W8} {least most : Nat} (h : (numL w least most).2 = 0) : least ≤ (numL w least most).1 ∧ (numL w least most).1 ≤ most := by
  unfold numL at h ⊢
  split at h
  · simp at h
  · rename_i h1
    rw [if_neg h1]
    have := num_le h
    exact ⟨by
      have : ¬ (num w most).1 < least := fun e => h1 ⟨h, e⟩
      omega, this⟩
theorem allNums_iff {j : JobD} : allNums j = true ↔ inB j.length 0 65536 = true ∧ inB j.walks 1 65536 = true ∧ (inB j.stop 0 4294967295 = true ∧ inB j.od 1 4294967295 = true) ∧ (inB j.p 1 65536 = true ∧ inB j.q 1 65536 = true) ∧ inB j.tries 1 1024 = true ∧ inB j.best 0 1024 = true ∧ inB j.bsh 1 65536 = true ∧ inB j.bro 1 16777216 = true ∧ inB j.bpo 2 65536 = true ∧ inB j.bso 1 4096 = true := by
  simp [allNums, numTab, jobC, and_assoc]
/-- without restarts' order -/
structure WkJ (j : JobD) : Prop where
  ok : JobOk j
  kind : j.kind < 3
  nums : allNums j = true
  nodup : j.src.Nodup
  few : j.src.length ≤ 256
theorem InJ.wk {j : JobD} (h : InJ j) : WkJ j := ⟨h.ok, h.kind, h.nums, h.nodup, h.few⟩
theorem setC_wk {j : JobD} (h : WkJ j) {x : Nat × Nat × Nat} (hx : x ∈ numTab.flatMap (·.2)) {v : Nat} (h1 : x.2.1 ≤ v) (h2 : v ≤ x.2.2) : WkJ (setC j x.1 v) := by
  obtain ⟨ok, hk, hn, hd, hf⟩ := h
  have hn := allNums_iff.1 hn
  simp only [inB, decide_eq_true_eq] at hn
  obtain ⟨n1, n2, n3, n4, n5, n6, n7, n8, n9, n10⟩ := hn
  obtain ⟨o1, o2, o3, o4, o5, o6, o7, o8, o9, o10, o11, o12, o13, o14, o15⟩ := ok
  have hx' : x = (2, 0, 65536) ∨ x = (3, 1, 65536) ∨ x = (5, 0, 4294967295) ∨ x = (6, 1, 4294967295) ∨ x = (7, 1, 65536) ∨ x = (8, 1, 65536) ∨ x = (9, 1, 1024) ∨ x = (10, 0, 1024) ∨ x = (11, 1, 65536) ∨ x = (12, 1, 16777216) ∨ x = (13, 2, 65536) ∨ x = (14, 1, 4096) := by
    simpa [numTab] using hx
  clear hx
  rcases hx' with rfl | rfl | rfl | rfl | rfl | rfl | rfl | rfl | rfl | rfl | rfl | rfl
  all_goals
    simp only at h1 h2
    refine ⟨⟨?_, ?_, ?_, ?_, ?_, ?_, ?_, ?_, ?_, ?_, ?_, ?_, ?_, ?_, ?_⟩, ?_, allNums_iff.2 ?_, ?_, ?_⟩
    all_goals simp only [setC, inB, decide_eq_true_eq]
    all_goals first
      | assumption
      | omega
      | (refine ⟨?_, ?_, ⟨?_, ?_⟩, ⟨?_, ?_⟩, ?_, ?_, ?_, ?_, ?_, ?_⟩ <;> omega)
theorem entry_cases (k : W8) : entryJ k = [] ∨ ∃ e ∈ numTab, e.1 = k ∧ entryJ k = e.2 := by
  unfold entryJ
  cases h : numTab.find? (fun e => e.1 == k) with
  | none => exact .inl rfl
  | some e => exact .inr ⟨e, List.mem_of_find?_eq_some h, by simpa using List.find?_some h, rfl⟩
theorem takeC_wk : ∀ (cs : List (Nat × Nat × Nat)) (ws : List W8) {j : JobD}, WkJ j → (∀ x ∈ cs, x ∈ numTab.flatMap (·.2)) → WkJ (takeC j cs ws).1
  | [], _, j, h, _ => by unfold takeC; exact h
  | _ :: _, [], j, h, _ => by unfold takeC; exact h
  | x :: cs, w :: ws, j, h, hc => by
    rw [takeC]
    split
    · exact h
    · rename_i h1
      have h2 := numL_in (Decidable.of_not_not h1)
      exact takeC_wk cs ws (setC_wk h (hc x (by simp)) h2.1 h2.2) (fun y hy => hc y (by simp [hy]))
theorem entry_mem {k : W8} : ∀ x ∈ entryJ k, x ∈ numTab.flatMap (·.2) := fun x hx => by
  rcases entry_cases k with h | ⟨e, he, _, h⟩
  · rw [h] at hx; cases hx
  · rw [h] at hx; exact List.mem_flatMap.2 ⟨e, he, hx⟩
theorem setC_src (j : JobD) (c v : Nat) : (setC j c v).src = j.src := by unfold setC; split <;> rfl
theorem takeC_src : ∀ (cs : List (Nat × Nat × Nat)) (ws : List W8) (j : JobD), (takeC j cs ws).1.src = j.src
  | [], _, j => by unfold takeC; rfl
  | _ :: _, [], j => by unfold takeC; rfl
  | x :: cs, w :: ws, j => by
    rw [takeC]
    split
    · rfl
    · rw [takeC_src, setC_src]
theorem lineJ_in {j : JobD} (h : InJ j) {met : List W8} {k : W8} {ws : List W8} (he : (lineJ j met k ws).2 = 0) : InJ (lineJ j met k ws).1 := by
  unfold lineJ at he ⊢
  by_cases c1 : wantsJ k = 0 ∨ wantsJ k ≠ ws.length
  · rw [if_pos c1] at he; simp at he
  rw [if_neg c1] at he ⊢
  by_cases c2 : k ∈ met ∧ k ≠ kSource
  · rw [if_pos c2] at he; simp at he
  rw [if_neg c2] at he ⊢
  by_cases c3 : k = kWalk
  · rw [if_pos c3] at he ⊢
    unfold walkJ at he ⊢
    cases hk : kindOf ws[0]! with
    | none => rw [hk] at he; simp at he
    | some n =>
      have hn : n < 3 := by
        unfold kindOf at hk
        split at hk
        · cases hk; decide
        split at hk
        · cases hk; decide
        split at hk
        · cases hk; decide
        · cases hk
      obtain ⟨⟨o1, o2, o3, o4, o5, o6, o7, o8, o9, o10, o11, o12, o13, o14, o15⟩, a, b, c, d, e⟩ := h
      exact ⟨⟨by show n < 256; omega, o2, o3, o4, o5, o6, o7, o8, o9, o10, o11, o12, o13, o14, o15⟩, hn, b, c, d, e⟩
  rw [if_neg c3] at he ⊢
  by_cases c4 : k = kSeed
  · rw [if_pos c4] at he ⊢
    unfold seedJ at he ⊢
    split at he
    · rename_i h1; exact absurd he h1
    rename_i h1
    rw [if_neg h1]
    have h2 := num_le (Decidable.of_not_not h1)
    obtain ⟨⟨o1, o2, o3, o4, o5, o6, o7, o8, o9, o10, o11, o12, o13, o14, o15⟩, a, b, c, d, e⟩ := h
    exact ⟨⟨o1, by show (num ws[0]! 18446744073709551615).1 < _; omega, o3, o4, o5, o6, o7, o8, o9, o10, o11, o12, o13, o14, o15⟩, a, b, c, d, e⟩
  rw [if_neg c4] at he ⊢
  by_cases c5 : k = kSource
  · rw [if_pos c5] at he ⊢
    unfold sourceJ at he ⊢
    split at he
    · rename_i h1; exact absurd he h1
    rename_i h1
    rw [if_neg h1]
    split at he
    · simp at he
    rename_i h2
    rw [if_neg h2]
    split at he
    · simp at he
    rename_i h3
    rw [if_neg h3]
    have h4 := num_le (Decidable.of_not_not h1)
    obtain ⟨⟨o1, o2, o3, o4, o5, o6, o7, o8, o9, o10, o11, o12, o13, o14, o15⟩, a, b, c, d, e⟩ := h
    refine ⟨⟨o1, o2, o3, o4, ?_, o6, o7, o8, o9, o10, o11, o12, o13, o14, o15⟩, a, b, c, ?_, ?_⟩
    · intro x hx
      rcases List.mem_append.1 hx with h | h
      · exact o5 x h
      · rw [List.mem_singleton.1 h]; omega
    · show (j.src ++ [(num ws[0]! 4294967295).1]).Nodup
      rw [List.nodup_append]
      refine ⟨d, by simp, fun a ha b hb e => ?_⟩
      rw [List.mem_singleton] at hb
      subst hb
      exact h2 (e ▸ ha)
    · show (j.src ++ [(num ws[0]! 4294967295).1]).length ≤ 256
      rw [List.length_append, List.length_singleton]; omega
  rw [if_neg c5] at he ⊢
  unfold numsJ at he ⊢
  split at he
  · rename_i h1; exact absurd he h1
  rename_i h1
  rw [if_neg h1]
  split at he
  · simp at he
  rename_i h2
  rw [if_neg h2]
  have hw := takeC_wk (entryJ k) ws h.wk entry_mem
  exact ⟨hw.ok, hw.kind, hw.nums, Nat.le_of_not_lt h2, hw.nodup, hw.few⟩
theorem readJGo_may : ∀ (ls : List W8) {j : JobD} (met : List W8) (n : Nat), InJ j → (readJGo j met n ls).2.2 = 0 → mayJ (readJGo j met n ls).1 = true ∧ (readJGo j met n ls).2.1 = 0
  | [], j, met, n, h, he => by
    unfold readJGo at he ⊢
    split at he
    · simp at he
    · rename_i hs
      rw [if_neg hs]
      exact ⟨inJ_may h hs, rfl⟩
  | s :: ls, j, met, n, h, he => by
    rw [readJGo] at he ⊢
    cases hw : words s with
    | nil => rw [hw] at he; exact readJGo_may ls met (n + 1) h he
    | cons k ws =>
      rw [hw] at he
      simp only at he ⊢
      split at he
      · rename_i hk; rw [if_pos hk]; exact readJGo_may ls met (n + 1) h he
      · rename_i hk
        rw [if_neg hk]
        split at he
        · rename_i h1; exact absurd he h1
        · rename_i h1
          rw [if_neg h1]
          exact readJGo_may ls _ (n + 1) (lineJ_in h (Decidable.of_not_not h1)) he
theorem readJ_may {b : List UInt8} (h : (readJ b).2.2 = 0) : mayJ (readJ b).1 = true := (readJGo_may _ _ _ inJ_begin h).1
end Go.Proofs.Ytmflopeedofkhaa

namespace Go.Proofs.Ytmflopeedofkhaa
set_option linter.unusedSimpArgs false
set_option linter.unusedVariables false
set_option maxRecDepth 100000
open Go.RowKit

def numCs (jb jo : Nat) (xs : List (Nat × Nat × Nat)) : List Value := xs.flatMap (fun x => [.pointer (some ⟨jb, jo + x.1, none⟩), .int .u64 (x.2.1 : Nat), .int .u64 (x.2.2 : Nat)])
def numK (k : Nat) : List UInt8 × List (Nat × Nat × Nat) := numTab.getD k ([], [])
def iS (k : Nat) : Nat := [5, 11, 21, 31, 37, 43, 50, 57, 64, 71].getD k 0
def pureL : List Nat := [1, 2, 3, 4, 7, 8, 9, 10, 13, 14, 15, 16, 17, 18, 19, 20, 23, 24, 25, 26, 27, 28, 29, 30, 33, 34, 35, 36, 39, 40, 41, 42, 45, 46, 47, 48, 49, 52, 53, 54, 55, 56, 59, 60, 61, 62, 63, 66, 67, 68, 69, 70]
theorem ops_cases : ∀ i, i < 75 → i ∈ pureL ∨ i = 0 ∨ (∃ k, k < 10 ∧ i = iS k) ∨ (∃ k, k < 10 ∧ i = iS k + 1) ∨ i = 73 ∨ i = 74 := by decide
theorem iS_inj : ∀ k, k < 10 → ∀ j, j < 10 → iS k = iS j → k = j := by decide
theorem iS_lt : ∀ k, k < 10 → 0 < iS k ∧ iS k + 1 < 73 := by decide
theorem iS_ne : ∀ k, k < 10 → ∀ j, j < 10 → iS k ≠ iS j + 1 := by decide
theorem iS_pure : ∀ k, k < 10 → iS k ∉ pureL ∧ iS k + 1 ∉ pureL := by decide
theorem numK_words : ∀ k, k < 10 → ∀ j, j < 10 → (numK k).1 = (numK j).1 → k = j := by decide
/-- an entry of the map -/
def EntK (s : Nat → Value) (k : Nat) (x : MapEntry) : Prop := x.key = .string (bs (numK k).1) ∧ x.val = s k
structure NumSt (T : TypeId) (jb jo : Nat) (w0 : World) (l : Array Bool) (m : Value) (s : Nat → Value) (u v : Value) (w : World) : Prop where
  sz : l.size = 75
  pure : ∀ i ∈ pureL, l.getD i true = true
  below : Below w0.heap.size w0 w
  ins : ∀ k, k < 10 → l.getD (iS k + 1) true = true → l.getD 0 true = true ∧ l.getD (iS k) true = true
  map : l.getD 0 true = true → ∃ mb es, m = .map (some mb) ∧ w0.heap.size ≤ mb ∧ MapIs w mb es es.length ∧ (∀ k, k < 10 → l.getD (iS k + 1) true = true → ∃ x ∈ es, EntK s k x) ∧ (∀ x ∈ es, ∃ k, k < 10 ∧ l.getD (iS k + 1) true = true ∧ EntK s k x) ∧
    (∀ x ∈ es, x.born < es.length) ∧ (es.map (·.born)).Nodup ∧ (es.map (·.key)).Nodup
  sl : ∀ k, k < 10 → l.getD (iS k) true = true → ∃ b, s k = .slice (some ⟨b, 0, none⟩) (numK k).2.length (numK k).2.length ∧ w0.heap.size ≤ b ∧ w.heap[b]? = some (.cells (numCs jb jo (numK k).2).toArray T (0, 0))
  f1 : l.getD 73 true = true → l.getD 0 true = true ∧ u = m
  f2 : l.getD 74 true = true → l.getD 0 true = true ∧ v = m ∧ l.getD 73 true = true
def upd (s : Nat → Value) (k : Nat) (x : Value) : Nat → Value := fun i => if i = k then x else s i
theorem getD_set {l : Array Bool} {i : Nat} (hi : i < l.size) (j : Nat) : (l.setIfInBounds i true).getD j true = if i = j then true else l.getD j true := by
  by_cases h : i = j
  · subst h; simp [Array.getD, hi]
  · rw [if_neg h]; exact getD_set_ne true h
theorem getD_up {l : Array Bool} {i : Nat} (hi : i < l.size) {j : Nat} (h : l.getD j true = true) : (l.setIfInBounds i true).getD j true = true := by
  rw [getD_set hi]; split
  · rfl
  · exact h
section
variable {T : TypeId} {jb jo : Nat} {w0 : World} {l : Array Bool} {m : Value} {s : Nat → Value} {u v : Value} {w : World}
theorem NumSt.start (hsz : l.size = 75) (hp : ∀ i ∈ pureL, l.getD i true = true) (hz : l.getD 0 true = false) (hk : ∀ k, k < 10 → l.getD (iS k) true = false ∧ l.getD (iS k + 1) true = false) (h3 : l.getD 73 true = false) (h4 : l.getD 74 true = false) (hb : Below w0.heap.size w0 w) : NumSt T jb jo w0 l m s u v w := by
  refine ⟨hsz, hp, hb, fun k h hx => ?_, fun hx => ?_, fun k h hx => ?_, fun hx => ?_, fun hx => ?_⟩
  · rw [(hk k h).2] at hx; cases hx
  · rw [hz] at hx; cases hx
  · rw [(hk k h).1] at hx; cases hx
  · rw [h3] at hx; cases hx
  · rw [h4] at hx; cases hx
theorem NumSt.mk0 (h : NumSt T jb jo w0 l m s u v w) (h0 : l.getD 0 true = false) : NumSt T jb jo w0 (l.setIfInBounds 0 true) (.map (some w.heap.size)) s u v (w.alloc (.map #[] 0)) := by
  have hg := getD_set (l := l) (i := 0) (by rw [h.sz]; omega)
  have hno : ∀ k, k < 10 → l.getD (iS k + 1) true = false := fun k hk => by
    cases hx : l.getD (iS k + 1) true with
    | false => rfl
    | true => have := (h.ins k hk hx).1; rw [h0] at this; cases this
  refine ⟨by simpa using h.sz, fun i hi => ?_, h.below.alloc h.below.size _, fun k hk hx => ?_, fun _ => ⟨w.heap.size, [], rfl, h.below.size, heap_alloc_new w _, fun k hk hx => ?_, fun x hx => by simp at hx, fun x hx => by simp at hx, by simp, by simp⟩, fun k hk hx => ?_, fun hx => ?_, fun hx => ?_⟩
  · rw [hg]; split
    · rfl
    · exact h.pure i hi
  · rw [hg, if_neg (by omega), hno k hk] at hx; cases hx
  · rw [hg, if_neg (by omega), hno k hk] at hx; cases hx
  · rw [hg, if_neg (by have := iS_lt k hk; omega)] at hx
    obtain ⟨b, h1, h2, h3⟩ := h.sl k hk hx
    exact ⟨b, h1, h2, (Below.heap_alloc w _ b (Array.getElem?_eq_some_iff.1 h3).1).trans h3⟩
  · rw [hg, if_neg (by omega)] at hx
    have := (h.f1 hx).1; rw [h0] at this; cases this
  · rw [hg, if_neg (by omega)] at hx
    have := (h.f2 hx).1; rw [h0] at this; cases this
theorem NumSt.lay (h : NumSt T jb jo w0 l m s u v w) {k : Nat} (hk : k < 10) (h0 : l.getD (iS k) true = false) :
    NumSt T jb jo w0 (l.setIfInBounds (iS k) true) m (upd s k (.slice (some ⟨w.heap.size, 0, none⟩) (numK k).2.length (numK k).2.length)) u v (w.alloc (.cells (numCs jb jo (numK k).2).toArray T)) := by
  have hl := iS_lt k hk
  have hg := getD_set (l := l) (i := iS k) (by rw [h.sz]; omega)
  have hu : ∀ j, j ≠ k → upd s k (.slice (some ⟨w.heap.size, 0, none⟩) (numK k).2.length (numK k).2.length) j = s j := fun j hj => if_neg hj
  have hi : ∀ j, j < 10 → l.getD (iS j + 1) true = true → j ≠ k := fun j hj hx e => by
    have := (h.ins j hj hx).2; rw [e, h0] at this; cases this
  refine ⟨by simpa using h.sz, fun i hi => ?_, h.below.alloc h.below.size _, fun j hj hx => ?_, fun hx => ?_, fun j hj hx => ?_, fun hx => ?_, fun hx => ?_⟩
  · rw [hg]; split
    · rfl
    · exact h.pure i hi
  · rw [hg, if_neg (iS_ne k hk j hj)] at hx
    have := h.ins j hj hx
    rw [hg, hg, if_neg (by omega)]
    refine ⟨this.1, ?_⟩
    split
    · rfl
    · exact this.2
  · rw [hg, if_neg (by omega)] at hx
    obtain ⟨mb, es, e1, e2, e3, e4, e5, e6, e7, e8⟩ := h.map hx
    refine ⟨mb, es, e1, e2, e3.ext (ext_alloc _ _), fun j hj hy => ?_, fun x hx => ?_, e6, e7, e8⟩
    · rw [hg, if_neg (iS_ne k hk j hj)] at hy
      obtain ⟨x, hx, h1, h2⟩ := e4 j hj hy
      exact ⟨x, hx, h1, by rw [hu j (hi j hj hy)]; exact h2⟩
    · obtain ⟨j, hj, hy, h1, h2⟩ := e5 x hx
      exact ⟨j, hj, by rw [hg, if_neg (iS_ne k hk j hj)]; exact hy, h1, by rw [hu j (hi j hj hy)]; exact h2⟩
  · by_cases e : j = k
    · subst e
      exact ⟨w.heap.size, if_pos rfl, h.below.size, heap_alloc_new w _⟩
    · rw [hg, if_neg (fun e' => e (iS_inj k hk j hj e').symm)] at hx
      obtain ⟨b, h1, h2, h3⟩ := h.sl j hj hx
      exact ⟨b, by rw [hu j e]; exact h1, h2, (Below.heap_alloc w _ b (Array.getElem?_eq_some_iff.1 h3).1).trans h3⟩
  · rw [hg, if_neg (by omega)] at hx ⊢
    exact h.f1 hx
  · rw [hg, if_neg (by omega)] at hx
    obtain ⟨f1, f2, f3⟩ := h.f2 hx
    exact ⟨getD_up (by rw [h.sz]; omega) f1, f2, getD_up (by rw [h.sz]; omega) f3⟩
/-- what is to be inserted, and where -/
theorem NumSt.pre (h : NumSt T jb jo w0 l m s u v w) {k : Nat} (hk : k < 10) (hm : l.getD 0 true = true) (h0 : l.getD (iS k + 1) true = false) :
    ∃ mb es, m = .map (some mb) ∧ MapIs w mb es es.length ∧ (∀ x ∈ es, ∃ t : ByteArray, x.key = .string t ∧ bs (numK k).1 ≠ t) ∧
      ∀ w', MapIs w' mb (es ++ [⟨.string (bs (numK k).1), s k, es.length⟩]) (es.length + 1) → Only (fun i => i = mb) w w' → l.getD (iS k) true = true → NumSt T jb jo w0 (l.setIfInBounds (iS k + 1) true) m s u v w' := by
  obtain ⟨mb, es, e1, e2, e3, e4, e5, e6, e7, e8⟩ := h.map hm
  have hl := iS_lt k hk
  have hg := getD_set (l := l) (i := iS k + 1) (by rw [h.sz]; omega)
  have hne : ∀ x ∈ es, ∃ t : ByteArray, x.key = .string t ∧ bs (numK k).1 ≠ t := fun x hx => by
    obtain ⟨j, hj, hy, h1, h2⟩ := e5 x hx
    refine ⟨_, h1, fun e => ?_⟩
    have := numK_words k hk j hj (bs_inj e)
    rw [← this, h0] at hy; cases hy
  refine ⟨mb, es, e1, e3, hne, fun w' hm' ho hs => ⟨by simpa using h.sz, fun i hi => ?_, h.below.trans (ho.below h.below.size (fun i hi e => by omega)), fun j hj hx => ?_, fun hx => ⟨mb, es ++ [⟨.string (bs (numK k).1), s k, es.length⟩], e1, e2, by rw [List.length_append]; exact hm', fun j hj hy => ?_, fun x hx => ?_, fun x hx => ?_, ?_, ?_⟩, fun j hj hx => ?_, fun hx => ?_, fun hx => ?_⟩⟩
  · rw [hg]; split
    · rfl
    · exact h.pure i hi
  · rw [hg, hg, if_neg (by omega), if_neg (fun e => iS_ne j hj k hk e.symm)]
    by_cases e : j = k
    · subst e; exact ⟨hm, hs⟩
    · rw [hg, if_neg (fun e' => e (iS_inj k hk j hj (by omega)).symm)] at hx
      exact h.ins j hj hx
  · by_cases e : j = k
    · subst e; exact ⟨_, List.mem_append_right _ (List.mem_singleton.2 rfl), rfl, rfl⟩
    · rw [hg, if_neg (fun e' => e (iS_inj k hk j hj (by omega)).symm)] at hy
      obtain ⟨x, hx, h1⟩ := e4 j hj hy
      exact ⟨x, List.mem_append_left _ hx, h1⟩
  · rcases List.mem_append.1 hx with h1 | h1
    · obtain ⟨j, hj, hy, h2⟩ := e5 x h1
      refine ⟨j, hj, ?_, h2⟩
      rw [hg]; split
      · rfl
      · exact hy
    · rw [List.mem_singleton] at h1
      subst h1
      exact ⟨k, hk, by rw [hg, if_pos rfl], rfl, rfl⟩
  · rw [List.length_append]
    rcases List.mem_append.1 hx with h1 | h1
    · have := e6 x h1; simp; omega
    · rw [List.mem_singleton] at h1; subst h1; simp
  · rw [List.map_append, List.nodup_append]
    refine ⟨e7, by simp, fun a ha b hb => ?_⟩
    obtain ⟨x, hx, rfl⟩ := List.mem_map.1 ha
    simp only [List.map_cons, List.map_nil, List.mem_singleton] at hb
    have := e6 x hx; omega
  · rw [List.map_append, List.nodup_append]
    refine ⟨e8, by simp, fun a ha b hb => ?_⟩
    obtain ⟨x, hx, rfl⟩ := List.mem_map.1 ha
    simp only [List.map_cons, List.map_nil, List.mem_singleton] at hb
    obtain ⟨t, ht, hn⟩ := hne x hx
    rw [hb, ht]
    intro e
    injection e with e
    exact hn e.symm
  · rw [hg, if_neg (fun e => iS_ne j hj k hk e.symm)] at hx
    obtain ⟨b, h1, h2, h3⟩ := h.sl j hj hx
    refine ⟨b, h1, h2, (ho.same b (Array.getElem?_eq_some_iff.1 h3).1 (fun e => ?_)).trans h3⟩
    subst e
    have := e3
    unfold MapIs at this
    rw [h3] at this; cases this
  · rw [hg, if_neg (by omega)] at hx ⊢
    exact h.f1 hx
  · rw [hg, if_neg (by omega)] at hx
    obtain ⟨f1, f2, f3⟩ := h.f2 hx
    exact ⟨getD_up (by rw [h.sz]; omega) f1, f2, getD_up (by rw [h.sz]; omega) f3⟩
theorem NumSt.f1s (h : NumSt T jb jo w0 l m s u v w) (hm : l.getD 0 true = true) (h0 : l.getD 73 true = false) : NumSt T jb jo w0 (l.setIfInBounds 73 true) m s m v w := by
  have hg := getD_set (l := l) (i := 73) (by rw [h.sz]; omega)
  have hl := iS_lt
  refine ⟨by simpa using h.sz, fun i hi => ?_, h.below, fun j hj hx => ?_, fun hx => ?_, fun j hj hx => ?_, fun hx => ⟨by rw [hg, if_neg (by omega)]; exact hm, rfl⟩, fun hx => ?_⟩
  · rw [hg]; split
    · rfl
    · exact h.pure i hi
  · rw [hg, if_neg (by have := hl j hj; omega)] at hx
    rw [hg, hg, if_neg (by omega), if_neg (by have := hl j hj; omega)]
    exact h.ins j hj hx
  · obtain ⟨mb, es, e1, e2, e3, e4, e5, e6⟩ := h.map hm
    refine ⟨mb, es, e1, e2, e3, fun j hj hy => ?_, fun x hx => ?_, e6⟩
    · rw [hg, if_neg (by have := hl j hj; omega)] at hy
      exact e4 j hj hy
    · obtain ⟨j, hj, hy, h2⟩ := e5 x hx
      exact ⟨j, hj, by rw [hg, if_neg (by have := hl j hj; omega)]; exact hy, h2⟩
  · rw [hg, if_neg (by have := hl j hj; omega)] at hx
    exact h.sl j hj hx
  · rw [hg, if_neg (by omega)] at hx
    have := (h.f2 hx).2.2; rw [h0] at this; cases this
theorem NumSt.f2s (h : NumSt T jb jo w0 l m s u v w) (hm : l.getD 73 true = true) : NumSt T jb jo w0 (l.setIfInBounds 74 true) m s u u w := by
  have hg := getD_set (l := l) (i := 74) (by rw [h.sz]; omega)
  have hl := iS_lt
  obtain ⟨h0, hu⟩ := h.f1 hm
  refine ⟨by simpa using h.sz, fun i hi => ?_, h.below, fun j hj hx => ?_, fun hx => ?_, fun j hj hx => ?_, fun hx => ⟨by rw [hg, if_neg (by omega)]; exact h0, hu⟩, fun hx => ⟨by rw [hg, if_neg (by omega)]; exact h0, hu, by rw [hg, if_neg (by omega)]; exact hm⟩⟩
  · rw [hg]; split
    · rfl
    · exact h.pure i hi
  · rw [hg, if_neg (by have := hl j hj; omega)] at hx
    rw [hg, hg, if_neg (by omega), if_neg (by have := hl j hj; omega)]
    exact h.ins j hj hx
  · obtain ⟨mb, es, e1, e2, e3, e4, e5, e6⟩ := h.map h0
    refine ⟨mb, es, e1, e2, e3, fun j hj hy => ?_, fun x hx => ?_, e6⟩
    · rw [hg, if_neg (by have := hl j hj; omega)] at hy
      exact e4 j hj hy
    · obtain ⟨j, hj, hy, h2⟩ := e5 x hx
      exact ⟨j, hj, by rw [hg, if_neg (by have := hl j hj; omega)]; exact hy, h2⟩
  · rw [hg, if_neg (by have := hl j hj; omega)] at hx
    exact h.sl j hj hx
/-- the map of the numbers of the job at ⟨jb, jo⟩ -/
structure NumsAt (T : TypeId) (jb jo : Nat) (w : World) (mb : Nat) (es : List MapEntry) : Prop where
  map : MapIs w mb es es.length
  born : ∀ x ∈ es, x.born < es.length
  borns : (es.map (·.born)).Nodup
  keys : (es.map (·.key)).Nodup
  all : ∀ e ∈ numTab, ∃ x ∈ es, x.key = .string (bs e.1)
  each : ∀ x ∈ es, ∃ e ∈ numTab, ∃ b, x.key = .string (bs e.1) ∧ x.val = .slice (some ⟨b, 0, none⟩) e.2.length e.2.length ∧ w.heap[b]? = some (.cells (numCs jb jo e.2).toArray T (0, 0))
theorem numTab_k : ∀ e ∈ numTab, ∃ k, k < 10 ∧ numK k = e := by decide
theorem numK_mem : ∀ k, k < 10 → numK k ∈ numTab := by decide
theorem NumSt.done (h : NumSt T jb jo w0 l m s u v w) (ha : ∀ i, i < 75 → l.getD i true = true) : ∃ mb es, v = .map (some mb) ∧ w0.heap.size ≤ mb ∧ NumsAt T jb jo w mb es ∧ Below w0.heap.size w0 w := by
  obtain ⟨mb, es, e1, e2, e3, e4, e5, e6, e7, e8⟩ := h.map (ha 0 (by omega))
  refine ⟨mb, es, ((h.f2 (ha 74 (by omega))).2.1).trans e1, e2, ⟨e3, e6, e7, e8, fun e he => ?_, fun x hx => ?_⟩, h.below⟩
  · obtain ⟨k, hk, rfl⟩ := numTab_k e he
    obtain ⟨x, hx, h1, _⟩ := e4 k hk (ha _ (by have := iS_lt k hk; omega))
    exact ⟨x, hx, h1⟩
  · obtain ⟨k, hk, _, h1, h2⟩ := e5 x hx
    obtain ⟨b, h3, _, h4⟩ := h.sl k hk (ha _ (by have := iS_lt k hk; omega))
    exact ⟨numK k, numK_mem k hk, b, h1, h2.trans h3, h4⟩
end

/-! ### a region in whatever order, by what is kept -/
def falses (l : Array Bool) : Nat := l.toList.count false
theorem falses_set {l : Array Bool} {i : Nat} (h : l.getD i true = false) : falses (l.setIfInBounds i true) + 1 = falses l := by
  unfold falses
  have hi : i < l.size := by
    rcases Nat.lt_or_ge i l.size with h1 | h1
    · exact h1
    · simp [Array.getD, Nat.not_lt.2 h1] at h
  have hv : l.toList[i]'(by simpa using hi) = false := by simpa [Array.getD, hi] using h
  rw [Array.toList_setIfInBounds]
  have h1 := List.count_set (l := l.toList) (i := i) (a := true) (b := false) (by simpa using hi)
  rw [h1]
  have h2 : 0 < l.toList.count false := List.count_pos_iff.2 (by rw [← hv]; exact List.getElem_mem _)
  rw [hv]
  simp only [beq_self_eq_true, if_true, show (true == false) = false from rfl, if_false, Bool.false_eq_true]
  omega
theorem wpAny_inv {P : Program} {md : Region.Mode} {ops : Array Oper} {Q : Exit → Act → World → Prop} (Inv : Array Bool → Act → World → Prop) (hsz : ∀ l a w, Inv l a w → l.size = ops.size)
    (hstep : ∀ l a w i, Inv l a w → i ∈ Region.ready md ops l → wpOp P ops Q i (fun a' w' => Inv (l.setIfInBounds i true) a' w') a w) (hend : ∀ l a w, Inv l a w → Region.ready md ops l = [] → Q .normal a w) :
    ∀ fuel l a w, Inv l a w → falses l ≤ fuel → wpAny P md ops Q fuel l a w
  | 0, l, a, w, hi, hf => by
    have hr : Region.ready md ops l = [] := by
      rw [List.eq_nil_iff_forall_not_mem]
      intro i hm
      have := falses_set (mem_ready.1 hm).1
      omega
    exact ⟨hr, hend l a w hi hr⟩
  | fuel + 1, l, a, w, hi, hf => by
    refine ⟨fun hr => hend l a w hi hr, fun i hm => ?_⟩
    exact wpOp_mono (fun a' w' h => wpAny_inv Inv hsz hstep hend fuel _ a' w' h (by have := falses_set (mem_ready.1 hm).1; omega)) (hstep l a w i hi hm)
theorem getD_ft {l : Array Bool} {i : Nat} (h : l.getD i false = true) : l.getD i true = true := by
  rcases Nat.lt_or_ge i l.size with h1 | h1
  · simpa [Array.getD, h1] using h
  · simp [Array.getD, Nat.not_lt.2 h1] at h
theorem getD_in {l : Array Bool} {i : Nat} (h : l.getD i true = false) : i < l.size := by
  rcases Nat.lt_or_ge i l.size with h1 | h1
  · exact h1
  · simp [Array.getD, Nat.not_lt.2 h1] at h
theorem getD_tf {l : Array Bool} {i : Nat} (hi : i < l.size) (h : l.getD i true = true) : l.getD i false = true := by simpa [Array.getD, hi] using h
section
variable {P : Program} {md : Region.Mode} {ops : Array Oper} {Q : Exit → Act → World → Prop}
theorem ready_after {l : Array Bool} {i : Nat} {o : Oper} (hr : i ∈ Region.ready md ops l) (ho : ops[i]? = some o) (n : Nat) {e : Edge} (he : o.after[n]? = some e) (hb : Region.binds md e = true) : l.getD e.on true = true := by
  obtain ⟨_, o', ho', h⟩ := mem_ready.1 hr
  rw [ho] at ho'; cases ho'
  exact getD_ft (h e (Array.mem_of_getElem? he) hb)
/-- where nothing is ready all are through -/
theorem ready_nil {l : Array Bool} (hsz : l.size = ops.size) (hlt : ((List.range ops.size).all fun i => match ops[i]? with | some (o : Oper) => o.after.all (fun e => decide (e.on < i)) | none => true) = true) (hr : Region.ready md ops l = []) : ∀ i, i < ops.size → l.getD i true = true := by
  intro i
  induction i using Nat.strongRecOn with
  | _ i ih =>
    intro hi
    cases hx : l.getD i true with
    | true => rfl
    | false =>
      have : i ∈ Region.ready md ops l := mem_ready.2 ⟨hx, ops[i], Array.getElem?_eq_some_iff.2 ⟨hi, rfl⟩, fun e he _ => by
        have h1 : e.on < i := by
          have h2 := List.all_eq_true.1 hlt i (List.mem_range.2 hi)
          rw [Array.getElem?_eq_some_iff.2 ⟨hi, rfl⟩] at h2
          exact of_decide_eq_true (Array.all_eq_true_iff_forall_mem.1 h2 e he)
        exact getD_tf (by omega) (ih e.on h1 (by omega))⟩
      rw [hr] at this; cases this
theorem wpOp_run {i : Nat} {o : Oper} {K : Act → World → Prop} {a : Act} {w : World} (ho : ops[i]? = some o) (hg : o.guard = none)
    (h : ∀ K' : Act → World → Prop, (∀ a w, K a w → K' a w) → o.wp P a w K' Q) : wpOp P ops Q i K a w := by
  unfold wpOp
  rw [ho]
  simp only [Region.wanted, hg, if_true]
  exact Or.inl (h K fun _ _ h => h)
theorem wpOp_insert {i : Nat} {o : Oper} {K : Act → World → Prop} {a : Act} {w : World} (ho : ops[i]? = some o) (hg : o.guard = none) (m x v : Operand) (t : TypeId) (hop : o.op = Op.insert t m x v)
    {k e : TypeId} {b clk : Nat} {es : List MapEntry} {key : ByteArray} {val : Value} (ht : P.underlying t = some (.map k e)) (hk : P.underlying k = some .string) (hm : a.eval m = .map (some b)) (hx : a.eval x = .string key) (hv : a.eval v = val)
    (h : MapIs w b es clk) (hne : ∀ x ∈ es, ∃ s : ByteArray, x.key = .string s ∧ key ≠ s)
    (hK : ∀ w', MapIs w' b (es ++ [⟨.string key, val, clk⟩]) (clk + 1) → Only (fun k => k = b) w w' → K (a.put o.dst undef) w') : wpOp P ops Q i K a w := by
  refine wpOp_run ho hg fun K' hK' => ?_
  obtain ⟨w', hrun, r1, r2, r3⟩ := run_insert_is val ht hk h hne
  unfold Oper.wp
  simp [execOp, hop, hm, hx, hv, hrun, Result.andThen]
  exact hK' _ _ (hK w' r1 r2)
theorem wpAny_frame {f : Nat} {l : Array Bool} {a a' : Act} {w : World} (e : a = a') (h : wpAny P md ops Q f l a' w) : wpAny P md ops Q f l a w := e ▸ h
end
end Go.Proofs.Ytmflopeedofkhaa

namespace Go.Proofs.Ytmflopeedofkhaa
set_option linter.unusedSimpArgs false
set_option linter.unusedVariables false
set_option maxRecDepth 100000
open Go.RowKit

def NumsR (T : TypeId) (jb jo : Nat) (w : World) (e : Ending) (w' : World) : Prop := ∃ mb es, e = .returned (.map (some mb)) ∧ w.heap.size ≤ mb ∧ NumsAt T jb jo w' mb es ∧ Below w.heap.size w w'
def numA (jb jo : Nat) (m : Value) (s : Nat → Value) (u v : Value) : Act := { tmps := #[.pointer (some ⟨jb, jo, none⟩), undef, v, m, .pointer (some ⟨jb, jo, none⟩), .pointer (some ⟨jb, jo, none⟩), .pointer (some ⟨jb, jo + 2, none⟩), .agg #[.pointer (some ⟨jb, jo + 2, none⟩), .int .u64 0, .int .u64 65536], (s 0), .pointer (some ⟨jb, jo, none⟩), .pointer (some ⟨jb, jo, none⟩), .pointer (some ⟨jb, jo + 3, none⟩), .agg #[.pointer (some ⟨jb, jo + 3, none⟩), .int .u64 1, .int .u64 65536], (s 1), .pointer (some ⟨jb, jo, none⟩), .pointer (some ⟨jb, jo, none⟩), .pointer (some ⟨jb, jo + 5, none⟩), .agg #[.pointer (some ⟨jb, jo + 5, none⟩), .int .u64 0, .int .u64 4294967295], .pointer (some ⟨jb, jo, none⟩), .pointer (some ⟨jb, jo, none⟩), .pointer (some ⟨jb, jo + 6, none⟩), .agg #[.pointer (some ⟨jb, jo + 6, none⟩), .int .u64 1, .int .u64 4294967295], (s 2), .pointer (some ⟨jb, jo, none⟩), .pointer (some ⟨jb, jo, none⟩), .pointer (some ⟨jb, jo + 7, none⟩), .agg #[.pointer (some ⟨jb, jo + 7, none⟩), .int .u64 1, .int .u64 65536], .pointer (some ⟨jb, jo, none⟩), .pointer (some ⟨jb, jo, none⟩), .pointer (some ⟨jb, jo + 8, none⟩), .agg #[.pointer (some ⟨jb, jo + 8, none⟩), .int .u64 1, .int .u64 65536], (s 3), .pointer (some ⟨jb, jo, none⟩), .pointer (some ⟨jb, jo, none⟩), .pointer (some ⟨jb, jo + 9, none⟩), .agg #[.pointer (some ⟨jb, jo + 9, none⟩), .int .u64 1, .int .u64 1024], (s 4), .pointer (some ⟨jb, jo, none⟩), .pointer (some ⟨jb, jo, none⟩), .pointer (some ⟨jb, jo + 10, none⟩), .agg #[.pointer (some ⟨jb, jo + 10, none⟩), .int .u64 0, .int .u64 1024], (s 5), .pointer (some ⟨jb, jo, none⟩), .pointer (some ⟨jb, jo, none⟩), .pointer (some ⟨jb, jo + 11, none⟩), .pointer (some ⟨jb, jo + 11, none⟩), .agg #[.pointer (some ⟨jb, jo + 11, none⟩), .int .u64 1, .int .u64 65536], (s 6), .pointer (some ⟨jb, jo, none⟩), .pointer (some ⟨jb, jo, none⟩), .pointer (some ⟨jb, jo + 11, none⟩), .pointer (some ⟨jb, jo + 11 + 1, none⟩), .agg #[.pointer (some ⟨jb, jo + 11 + 1, none⟩), .int .u64 1, .int .u64 16777216], (s 7), .pointer (some ⟨jb, jo, none⟩), .pointer (some ⟨jb, jo, none⟩), .pointer (some ⟨jb, jo + 11, none⟩), .pointer (some ⟨jb, jo + 11 + 2, none⟩), .agg #[.pointer (some ⟨jb, jo + 11 + 2, none⟩), .int .u64 2, .int .u64 65536], (s 8), .pointer (some ⟨jb, jo, none⟩), .pointer (some ⟨jb, jo, none⟩), .pointer (some ⟨jb, jo + 11, none⟩), .pointer (some ⟨jb, jo + 11 + 3, none⟩), .agg #[.pointer (some ⟨jb, jo + 11 + 3, none⟩), .int .u64 1, .int .u64 4096], (s 9), u], defers := [] }
@[reducible] def srcs0 : Array (Nat × Operand) := #[(0, .tmp 7)]
@[reducible] def srcs1 : Array (Nat × Operand) := #[(0, .tmp 12)]
@[reducible] def srcs2 : Array (Nat × Operand) := #[(0, .tmp 17), (1, .tmp 21)]
@[reducible] def srcs3 : Array (Nat × Operand) := #[(0, .tmp 26), (1, .tmp 30)]
@[reducible] def srcs4 : Array (Nat × Operand) := #[(0, .tmp 35)]
@[reducible] def srcs5 : Array (Nat × Operand) := #[(0, .tmp 40)]
@[reducible] def srcs6 : Array (Nat × Operand) := #[(0, .tmp 46)]
@[reducible] def srcs7 : Array (Nat × Operand) := #[(0, .tmp 52)]
@[reducible] def srcs8 : Array (Nat × Operand) := #[(0, .tmp 58)]
@[reducible] def srcs9 : Array (Nat × Operand) := #[(0, .tmp 64)]
def s0 : Nat → Value := fun _ => undef
set_option maxHeartbeats 12800000 in
theorem numbers_any (jb jo : Nat) (w : World) : Calls Try.prog 28 #[.pointer (some ⟨jb, jo, none⟩)] w (NumsR 72 jb jo w) := by
  go_enter Try.func28, Try.ntmps28
  go_wp2_with fail
  refine wp_region_any (by kernel_rfl) ?_
  change wpAny _ _ _ _ _ _ _ (World.drew _)
  refine wpAny_take (i := 1) (v := ?_) rfl (by kernel_rfl) (by kernel_rfl) (by kernel_rfl) (fun _ _ _ h => h) (Or.inl ⟨by rfl, ?_⟩) ?_
  rotate_left
  · (intro w; go_simp; try (with_reducible rfl))
  refine wpAny_take (i := 2) (v := ?_) rfl (by kernel_rfl) (by kernel_rfl) (by kernel_rfl) (fun _ _ _ h => h) (Or.inl ⟨by rfl, ?_⟩) ?_
  rotate_left
  · (intro w; go_simp; try (with_reducible rfl))
  refine wpAny_take (i := 3) (v := ?_) rfl (by kernel_rfl) (by kernel_rfl) (by kernel_rfl) (fun _ _ _ h => h) (Or.inl ⟨by rfl, ?_⟩) ?_
  rotate_left
  · (intro w; go_simp; try (with_reducible rfl))
  refine wpAny_take (i := 4) (v := ?_) rfl (by kernel_rfl) (by kernel_rfl) (by kernel_rfl) (fun _ _ _ h => h) (Or.inl ⟨by rfl, ?_⟩) ?_
  rotate_left
  · (intro w; go_simp; try (with_reducible rfl))
  refine wpAny_take (i := 7) (v := ?_) rfl (by kernel_rfl) (by kernel_rfl) (by kernel_rfl) (fun _ _ _ h => h) (Or.inl ⟨by rfl, ?_⟩) ?_
  rotate_left
  · (intro w; go_simp; try (with_reducible rfl))
  refine wpAny_take (i := 8) (v := ?_) rfl (by kernel_rfl) (by kernel_rfl) (by kernel_rfl) (fun _ _ _ h => h) (Or.inl ⟨by rfl, ?_⟩) ?_
  rotate_left
  · (intro w; go_simp; try (with_reducible rfl))
  refine wpAny_take (i := 9) (v := ?_) rfl (by kernel_rfl) (by kernel_rfl) (by kernel_rfl) (fun _ _ _ h => h) (Or.inl ⟨by rfl, ?_⟩) ?_
  rotate_left
  · (intro w; go_simp; try (with_reducible rfl))
  refine wpAny_take (i := 10) (v := ?_) rfl (by kernel_rfl) (by kernel_rfl) (by kernel_rfl) (fun _ _ _ h => h) (Or.inl ⟨by rfl, ?_⟩) ?_
  rotate_left
  · (intro w; go_simp; try (with_reducible rfl))
  refine wpAny_take (i := 13) (v := ?_) rfl (by kernel_rfl) (by kernel_rfl) (by kernel_rfl) (fun _ _ _ h => h) (Or.inl ⟨by rfl, ?_⟩) ?_
  rotate_left
  · (intro w; go_simp; try (with_reducible rfl))
  refine wpAny_take (i := 14) (v := ?_) rfl (by kernel_rfl) (by kernel_rfl) (by kernel_rfl) (fun _ _ _ h => h) (Or.inl ⟨by rfl, ?_⟩) ?_
  rotate_left
  · (intro w; go_simp; try (with_reducible rfl))
  refine wpAny_take (i := 15) (v := ?_) rfl (by kernel_rfl) (by kernel_rfl) (by kernel_rfl) (fun _ _ _ h => h) (Or.inl ⟨by rfl, ?_⟩) ?_
  rotate_left
  · (intro w; go_simp; try (with_reducible rfl))
  refine wpAny_take (i := 16) (v := ?_) rfl (by kernel_rfl) (by kernel_rfl) (by kernel_rfl) (fun _ _ _ h => h) (Or.inl ⟨by rfl, ?_⟩) ?_
  rotate_left
  · (intro w; go_simp; try (with_reducible rfl))
  refine wpAny_take (i := 17) (v := ?_) rfl (by kernel_rfl) (by kernel_rfl) (by kernel_rfl) (fun _ _ _ h => h) (Or.inl ⟨by rfl, ?_⟩) ?_
  rotate_left
  · (intro w; go_simp; try (with_reducible rfl))
  refine wpAny_take (i := 18) (v := ?_) rfl (by kernel_rfl) (by kernel_rfl) (by kernel_rfl) (fun _ _ _ h => h) (Or.inl ⟨by rfl, ?_⟩) ?_
  rotate_left
  · (intro w; go_simp; try (with_reducible rfl))
  refine wpAny_take (i := 19) (v := ?_) rfl (by kernel_rfl) (by kernel_rfl) (by kernel_rfl) (fun _ _ _ h => h) (Or.inl ⟨by rfl, ?_⟩) ?_
  rotate_left
  · (intro w; go_simp; try (with_reducible rfl))
  refine wpAny_take (i := 20) (v := ?_) rfl (by kernel_rfl) (by kernel_rfl) (by kernel_rfl) (fun _ _ _ h => h) (Or.inl ⟨by rfl, ?_⟩) ?_
  rotate_left
  · (intro w; go_simp; try (with_reducible rfl))
  refine wpAny_take (i := 23) (v := ?_) rfl (by kernel_rfl) (by kernel_rfl) (by kernel_rfl) (fun _ _ _ h => h) (Or.inl ⟨by rfl, ?_⟩) ?_
  rotate_left
  · (intro w; go_simp; try (with_reducible rfl))
  refine wpAny_take (i := 24) (v := ?_) rfl (by kernel_rfl) (by kernel_rfl) (by kernel_rfl) (fun _ _ _ h => h) (Or.inl ⟨by rfl, ?_⟩) ?_
  rotate_left
  · (intro w; go_simp; try (with_reducible rfl))
  refine wpAny_take (i := 25) (v := ?_) rfl (by kernel_rfl) (by kernel_rfl) (by kernel_rfl) (fun _ _ _ h => h) (Or.inl ⟨by rfl, ?_⟩) ?_
  rotate_left
  · (intro w; go_simp; try (with_reducible rfl))
  refine wpAny_take (i := 26) (v := ?_) rfl (by kernel_rfl) (by kernel_rfl) (by kernel_rfl) (fun _ _ _ h => h) (Or.inl ⟨by rfl, ?_⟩) ?_
  rotate_left
  · (intro w; go_simp; try (with_reducible rfl))
  refine wpAny_take (i := 27) (v := ?_) rfl (by kernel_rfl) (by kernel_rfl) (by kernel_rfl) (fun _ _ _ h => h) (Or.inl ⟨by rfl, ?_⟩) ?_
  rotate_left
  · (intro w; go_simp; try (with_reducible rfl))
  refine wpAny_take (i := 28) (v := ?_) rfl (by kernel_rfl) (by kernel_rfl) (by kernel_rfl) (fun _ _ _ h => h) (Or.inl ⟨by rfl, ?_⟩) ?_
  rotate_left
  · (intro w; go_simp; try (with_reducible rfl))
  refine wpAny_take (i := 29) (v := ?_) rfl (by kernel_rfl) (by kernel_rfl) (by kernel_rfl) (fun _ _ _ h => h) (Or.inl ⟨by rfl, ?_⟩) ?_
  rotate_left
  · (intro w; go_simp; try (with_reducible rfl))
  refine wpAny_take (i := 30) (v := ?_) rfl (by kernel_rfl) (by kernel_rfl) (by kernel_rfl) (fun _ _ _ h => h) (Or.inl ⟨by rfl, ?_⟩) ?_
  rotate_left
  · (intro w; go_simp; try (with_reducible rfl))
  refine wpAny_take (i := 33) (v := ?_) rfl (by kernel_rfl) (by kernel_rfl) (by kernel_rfl) (fun _ _ _ h => h) (Or.inl ⟨by rfl, ?_⟩) ?_
  rotate_left
  · (intro w; go_simp; try (with_reducible rfl))
  refine wpAny_take (i := 34) (v := ?_) rfl (by kernel_rfl) (by kernel_rfl) (by kernel_rfl) (fun _ _ _ h => h) (Or.inl ⟨by rfl, ?_⟩) ?_
  rotate_left
  · (intro w; go_simp; try (with_reducible rfl))
  refine wpAny_take (i := 35) (v := ?_) rfl (by kernel_rfl) (by kernel_rfl) (by kernel_rfl) (fun _ _ _ h => h) (Or.inl ⟨by rfl, ?_⟩) ?_
  rotate_left
  · (intro w; go_simp; try (with_reducible rfl))
  refine wpAny_take (i := 36) (v := ?_) rfl (by kernel_rfl) (by kernel_rfl) (by kernel_rfl) (fun _ _ _ h => h) (Or.inl ⟨by rfl, ?_⟩) ?_
  rotate_left
  · (intro w; go_simp; try (with_reducible rfl))
  refine wpAny_take (i := 39) (v := ?_) rfl (by kernel_rfl) (by kernel_rfl) (by kernel_rfl) (fun _ _ _ h => h) (Or.inl ⟨by rfl, ?_⟩) ?_
  rotate_left
  · (intro w; go_simp; try (with_reducible rfl))
  refine wpAny_take (i := 40) (v := ?_) rfl (by kernel_rfl) (by kernel_rfl) (by kernel_rfl) (fun _ _ _ h => h) (Or.inl ⟨by rfl, ?_⟩) ?_
  rotate_left
  · (intro w; go_simp; try (with_reducible rfl))
  refine wpAny_take (i := 41) (v := ?_) rfl (by kernel_rfl) (by kernel_rfl) (by kernel_rfl) (fun _ _ _ h => h) (Or.inl ⟨by rfl, ?_⟩) ?_
  rotate_left
  · (intro w; go_simp; try (with_reducible rfl))
  refine wpAny_take (i := 42) (v := ?_) rfl (by kernel_rfl) (by kernel_rfl) (by kernel_rfl) (fun _ _ _ h => h) (Or.inl ⟨by rfl, ?_⟩) ?_
  rotate_left
  · (intro w; go_simp; try (with_reducible rfl))
  refine wpAny_take (i := 45) (v := ?_) rfl (by kernel_rfl) (by kernel_rfl) (by kernel_rfl) (fun _ _ _ h => h) (Or.inl ⟨by rfl, ?_⟩) ?_
  rotate_left
  · (intro w; go_simp; try (with_reducible rfl))
  refine wpAny_take (i := 46) (v := ?_) rfl (by kernel_rfl) (by kernel_rfl) (by kernel_rfl) (fun _ _ _ h => h) (Or.inl ⟨by rfl, ?_⟩) ?_
  rotate_left
  · (intro w; go_simp; try (with_reducible rfl))
  refine wpAny_take (i := 47) (v := ?_) rfl (by kernel_rfl) (by kernel_rfl) (by kernel_rfl) (fun _ _ _ h => h) (Or.inl ⟨by rfl, ?_⟩) ?_
  rotate_left
  · (intro w; go_simp; try (with_reducible rfl))
  refine wpAny_take (i := 48) (v := ?_) rfl (by kernel_rfl) (by kernel_rfl) (by kernel_rfl) (fun _ _ _ h => h) (Or.inl ⟨by rfl, ?_⟩) ?_
  rotate_left
  · (intro w; go_simp; try (with_reducible rfl))
  refine wpAny_take (i := 49) (v := ?_) rfl (by kernel_rfl) (by kernel_rfl) (by kernel_rfl) (fun _ _ _ h => h) (Or.inl ⟨by rfl, ?_⟩) ?_
  rotate_left
  · (intro w; go_simp; try (with_reducible rfl))
  refine wpAny_take (i := 52) (v := ?_) rfl (by kernel_rfl) (by kernel_rfl) (by kernel_rfl) (fun _ _ _ h => h) (Or.inl ⟨by rfl, ?_⟩) ?_
  rotate_left
  · (intro w; go_simp; try (with_reducible rfl))
  refine wpAny_take (i := 53) (v := ?_) rfl (by kernel_rfl) (by kernel_rfl) (by kernel_rfl) (fun _ _ _ h => h) (Or.inl ⟨by rfl, ?_⟩) ?_
  rotate_left
  · (intro w; go_simp; try (with_reducible rfl))
  refine wpAny_take (i := 54) (v := ?_) rfl (by kernel_rfl) (by kernel_rfl) (by kernel_rfl) (fun _ _ _ h => h) (Or.inl ⟨by rfl, ?_⟩) ?_
  rotate_left
  · (intro w; go_simp; try (with_reducible rfl))
  refine wpAny_take (i := 55) (v := ?_) rfl (by kernel_rfl) (by kernel_rfl) (by kernel_rfl) (fun _ _ _ h => h) (Or.inl ⟨by rfl, ?_⟩) ?_
  rotate_left
  · (intro w; go_simp; try (with_reducible rfl))
  refine wpAny_take (i := 56) (v := ?_) rfl (by kernel_rfl) (by kernel_rfl) (by kernel_rfl) (fun _ _ _ h => h) (Or.inl ⟨by rfl, ?_⟩) ?_
  rotate_left
  · (intro w; go_simp; try (with_reducible rfl))
  refine wpAny_take (i := 59) (v := ?_) rfl (by kernel_rfl) (by kernel_rfl) (by kernel_rfl) (fun _ _ _ h => h) (Or.inl ⟨by rfl, ?_⟩) ?_
  rotate_left
  · (intro w; go_simp; try (with_reducible rfl))
  refine wpAny_take (i := 60) (v := ?_) rfl (by kernel_rfl) (by kernel_rfl) (by kernel_rfl) (fun _ _ _ h => h) (Or.inl ⟨by rfl, ?_⟩) ?_
  rotate_left
  · (intro w; go_simp; try (with_reducible rfl))
  refine wpAny_take (i := 61) (v := ?_) rfl (by kernel_rfl) (by kernel_rfl) (by kernel_rfl) (fun _ _ _ h => h) (Or.inl ⟨by rfl, ?_⟩) ?_
  rotate_left
  · (intro w; go_simp; try (with_reducible rfl))
  refine wpAny_take (i := 62) (v := ?_) rfl (by kernel_rfl) (by kernel_rfl) (by kernel_rfl) (fun _ _ _ h => h) (Or.inl ⟨by rfl, ?_⟩) ?_
  rotate_left
  · (intro w; go_simp; try (with_reducible rfl))
  refine wpAny_take (i := 63) (v := ?_) rfl (by kernel_rfl) (by kernel_rfl) (by kernel_rfl) (fun _ _ _ h => h) (Or.inl ⟨by rfl, ?_⟩) ?_
  rotate_left
  · (intro w; go_simp; try (with_reducible rfl))
  refine wpAny_take (i := 66) (v := ?_) rfl (by kernel_rfl) (by kernel_rfl) (by kernel_rfl) (fun _ _ _ h => h) (Or.inl ⟨by rfl, ?_⟩) ?_
  rotate_left
  · (intro w; go_simp; try (with_reducible rfl))
  refine wpAny_take (i := 67) (v := ?_) rfl (by kernel_rfl) (by kernel_rfl) (by kernel_rfl) (fun _ _ _ h => h) (Or.inl ⟨by rfl, ?_⟩) ?_
  rotate_left
  · (intro w; go_simp; try (with_reducible rfl))
  refine wpAny_take (i := 68) (v := ?_) rfl (by kernel_rfl) (by kernel_rfl) (by kernel_rfl) (fun _ _ _ h => h) (Or.inl ⟨by rfl, ?_⟩) ?_
  rotate_left
  · (intro w; go_simp; try (with_reducible rfl))
  refine wpAny_take (i := 69) (v := ?_) rfl (by kernel_rfl) (by kernel_rfl) (by kernel_rfl) (fun _ _ _ h => h) (Or.inl ⟨by rfl, ?_⟩) ?_
  rotate_left
  · (intro w; go_simp; try (with_reducible rfl))
  refine wpAny_take (i := 70) (v := ?_) rfl (by kernel_rfl) (by kernel_rfl) (by kernel_rfl) (fun _ _ _ h => h) (Or.inl ⟨by rfl, ?_⟩) ?_
  rotate_left
  · (intro w; go_simp; try (with_reducible rfl))
  refine wpAny_frame (a' := numA jb jo undef s0 undef (.map none)) (by go_simp; rfl) ?_
  refine wpAny_inv (fun l a w1 => ∃ m s u v, a = numA jb jo m s u v ∧ NumSt 72 jb jo w l m s u v w1) ?_ ?_ ?_ _ _ _ _ ⟨_, s0, _, _, rfl, ?_⟩ (by decide +kernel)
  case refine_1 =>
    rintro l a w1 ⟨_, _, _, _, _, h⟩
    exact h.sz
  case refine_2 =>
    rintro l a w1 i ⟨m, s, u, v, rfl, h⟩ hm
    have h0 := (mem_ready.1 hm).1
    have hi : i < 75 := by have := getD_in h0; rw [h.sz] at this; exact this
    rcases ops_cases i hi with hp | rfl | ⟨k, hk, rfl⟩ | ⟨k, hk, rfl⟩ | rfl | rfl
    · rw [h.pure i hp] at h0; cases h0
    · refine wpOp_run (o := ⟨some 3, .makeMap _ _, _, _, _, _⟩) rfl rfl fun K' hK => ?_
      unfold numA
      go_simp
      refine hK _ _ ?_
      exact ⟨_, s, u, v, rfl, h.mk0 h0⟩
    · rcases k with _ | _ | _ | _ | _ | _ | _ | _ | _ | _ | k
      · refine wpOp_run (o := ⟨some 8, .buildSlice _ 1 srcs0, _, _, _, _⟩) rfl rfl fun K' hK => ?_
        unfold numA
        go_simp
        refine hK _ _ ?_
        exact ⟨m, upd s 0 _, u, v, rfl, h.lay (k := 0) (by omega) h0⟩
      · refine wpOp_run (o := ⟨some 13, .buildSlice _ 1 srcs1, _, _, _, _⟩) rfl rfl fun K' hK => ?_
        unfold numA
        go_simp
        refine hK _ _ ?_
        exact ⟨m, upd s 1 _, u, v, rfl, h.lay (k := 1) (by omega) h0⟩
      · refine wpOp_run (o := ⟨some 22, .buildSlice _ 2 srcs2, _, _, _, _⟩) rfl rfl fun K' hK => ?_
        unfold numA
        go_simp
        refine hK _ _ ?_
        exact ⟨m, upd s 2 _, u, v, rfl, h.lay (k := 2) (by omega) h0⟩
      · refine wpOp_run (o := ⟨some 31, .buildSlice _ 2 srcs3, _, _, _, _⟩) rfl rfl fun K' hK => ?_
        unfold numA
        go_simp
        refine hK _ _ ?_
        exact ⟨m, upd s 3 _, u, v, rfl, h.lay (k := 3) (by omega) h0⟩
      · refine wpOp_run (o := ⟨some 36, .buildSlice _ 1 srcs4, _, _, _, _⟩) rfl rfl fun K' hK => ?_
        unfold numA
        go_simp
        refine hK _ _ ?_
        exact ⟨m, upd s 4 _, u, v, rfl, h.lay (k := 4) (by omega) h0⟩
      · refine wpOp_run (o := ⟨some 41, .buildSlice _ 1 srcs5, _, _, _, _⟩) rfl rfl fun K' hK => ?_
        unfold numA
        go_simp
        refine hK _ _ ?_
        exact ⟨m, upd s 5 _, u, v, rfl, h.lay (k := 5) (by omega) h0⟩
      · refine wpOp_run (o := ⟨some 47, .buildSlice _ 1 srcs6, _, _, _, _⟩) rfl rfl fun K' hK => ?_
        unfold numA
        go_simp
        refine hK _ _ ?_
        exact ⟨m, upd s 6 _, u, v, rfl, h.lay (k := 6) (by omega) h0⟩
      · refine wpOp_run (o := ⟨some 53, .buildSlice _ 1 srcs7, _, _, _, _⟩) rfl rfl fun K' hK => ?_
        unfold numA
        go_simp
        refine hK _ _ ?_
        exact ⟨m, upd s 7 _, u, v, rfl, h.lay (k := 7) (by omega) h0⟩
      · refine wpOp_run (o := ⟨some 59, .buildSlice _ 1 srcs8, _, _, _, _⟩) rfl rfl fun K' hK => ?_
        unfold numA
        go_simp
        refine hK _ _ ?_
        exact ⟨m, upd s 8 _, u, v, rfl, h.lay (k := 8) (by omega) h0⟩
      · refine wpOp_run (o := ⟨some 65, .buildSlice _ 1 srcs9, _, _, _, _⟩) rfl rfl fun K' hK => ?_
        unfold numA
        go_simp
        refine hK _ _ ?_
        exact ⟨m, upd s 9 _, u, v, rfl, h.lay (k := 9) (by omega) h0⟩
      · omega
    · rcases k with _ | _ | _ | _ | _ | _ | _ | _ | _ | _ | k
      · have r0 := ready_after hm (i := iS 0 + 1) (o := ⟨none, .insert _ (.tmp 3) (.const _) (.tmp 8), _, _, _, _⟩) rfl 0 rfl rfl
        have r1 := ready_after hm (i := iS 0 + 1) (o := ⟨none, .insert _ (.tmp 3) (.const _) (.tmp 8), _, _, _, _⟩) rfl 1 rfl rfl
        obtain ⟨mb, es, rfl, e2, e3, e4⟩ := h.pre (k := 0) (by omega) r0 h0
        refine wpOp_insert (i := iS 0 + 1) (o := ⟨none, .insert _ (.tmp 3) (.const _) (.tmp 8), _, _, _, _⟩) rfl rfl _ _ _ _ rfl Try.underlying66 Try.underlying9 rfl rfl rfl e2 e3 fun w2 f1 f2 => ?_
        exact ⟨_, s, u, v, rfl, e4 w2 f1 f2 r1⟩
      · have r0 := ready_after hm (i := iS 1 + 1) (o := ⟨none, .insert _ (.tmp 3) (.const _) (.tmp 13), _, _, _, _⟩) rfl 0 rfl rfl
        have r1 := ready_after hm (i := iS 1 + 1) (o := ⟨none, .insert _ (.tmp 3) (.const _) (.tmp 13), _, _, _, _⟩) rfl 1 rfl rfl
        obtain ⟨mb, es, rfl, e2, e3, e4⟩ := h.pre (k := 1) (by omega) r0 h0
        refine wpOp_insert (i := iS 1 + 1) (o := ⟨none, .insert _ (.tmp 3) (.const _) (.tmp 13), _, _, _, _⟩) rfl rfl _ _ _ _ rfl Try.underlying66 Try.underlying9 rfl rfl rfl e2 e3 fun w2 f1 f2 => ?_
        exact ⟨_, s, u, v, rfl, e4 w2 f1 f2 r1⟩
      · have r0 := ready_after hm (i := iS 2 + 1) (o := ⟨none, .insert _ (.tmp 3) (.const _) (.tmp 22), _, _, _, _⟩) rfl 0 rfl rfl
        have r1 := ready_after hm (i := iS 2 + 1) (o := ⟨none, .insert _ (.tmp 3) (.const _) (.tmp 22), _, _, _, _⟩) rfl 1 rfl rfl
        obtain ⟨mb, es, rfl, e2, e3, e4⟩ := h.pre (k := 2) (by omega) r0 h0
        refine wpOp_insert (i := iS 2 + 1) (o := ⟨none, .insert _ (.tmp 3) (.const _) (.tmp 22), _, _, _, _⟩) rfl rfl _ _ _ _ rfl Try.underlying66 Try.underlying9 rfl rfl rfl e2 e3 fun w2 f1 f2 => ?_
        exact ⟨_, s, u, v, rfl, e4 w2 f1 f2 r1⟩
      · have r0 := ready_after hm (i := iS 3 + 1) (o := ⟨none, .insert _ (.tmp 3) (.const _) (.tmp 31), _, _, _, _⟩) rfl 0 rfl rfl
        have r1 := ready_after hm (i := iS 3 + 1) (o := ⟨none, .insert _ (.tmp 3) (.const _) (.tmp 31), _, _, _, _⟩) rfl 1 rfl rfl
        obtain ⟨mb, es, rfl, e2, e3, e4⟩ := h.pre (k := 3) (by omega) r0 h0
        refine wpOp_insert (i := iS 3 + 1) (o := ⟨none, .insert _ (.tmp 3) (.const _) (.tmp 31), _, _, _, _⟩) rfl rfl _ _ _ _ rfl Try.underlying66 Try.underlying9 rfl rfl rfl e2 e3 fun w2 f1 f2 => ?_
        exact ⟨_, s, u, v, rfl, e4 w2 f1 f2 r1⟩
      · have r0 := ready_after hm (i := iS 4 + 1) (o := ⟨none, .insert _ (.tmp 3) (.const _) (.tmp 36), _, _, _, _⟩) rfl 0 rfl rfl
        have r1 := ready_after hm (i := iS 4 + 1) (o := ⟨none, .insert _ (.tmp 3) (.const _) (.tmp 36), _, _, _, _⟩) rfl 1 rfl rfl
        obtain ⟨mb, es, rfl, e2, e3, e4⟩ := h.pre (k := 4) (by omega) r0 h0
        refine wpOp_insert (i := iS 4 + 1) (o := ⟨none, .insert _ (.tmp 3) (.const _) (.tmp 36), _, _, _, _⟩) rfl rfl _ _ _ _ rfl Try.underlying66 Try.underlying9 rfl rfl rfl e2 e3 fun w2 f1 f2 => ?_
        exact ⟨_, s, u, v, rfl, e4 w2 f1 f2 r1⟩
      · have r0 := ready_after hm (i := iS 5 + 1) (o := ⟨none, .insert _ (.tmp 3) (.const _) (.tmp 41), _, _, _, _⟩) rfl 0 rfl rfl
        have r1 := ready_after hm (i := iS 5 + 1) (o := ⟨none, .insert _ (.tmp 3) (.const _) (.tmp 41), _, _, _, _⟩) rfl 1 rfl rfl
        obtain ⟨mb, es, rfl, e2, e3, e4⟩ := h.pre (k := 5) (by omega) r0 h0
        refine wpOp_insert (i := iS 5 + 1) (o := ⟨none, .insert _ (.tmp 3) (.const _) (.tmp 41), _, _, _, _⟩) rfl rfl _ _ _ _ rfl Try.underlying66 Try.underlying9 rfl rfl rfl e2 e3 fun w2 f1 f2 => ?_
        exact ⟨_, s, u, v, rfl, e4 w2 f1 f2 r1⟩
      · have r0 := ready_after hm (i := iS 6 + 1) (o := ⟨none, .insert _ (.tmp 3) (.const _) (.tmp 47), _, _, _, _⟩) rfl 0 rfl rfl
        have r1 := ready_after hm (i := iS 6 + 1) (o := ⟨none, .insert _ (.tmp 3) (.const _) (.tmp 47), _, _, _, _⟩) rfl 1 rfl rfl
        obtain ⟨mb, es, rfl, e2, e3, e4⟩ := h.pre (k := 6) (by omega) r0 h0
        refine wpOp_insert (i := iS 6 + 1) (o := ⟨none, .insert _ (.tmp 3) (.const _) (.tmp 47), _, _, _, _⟩) rfl rfl _ _ _ _ rfl Try.underlying66 Try.underlying9 rfl rfl rfl e2 e3 fun w2 f1 f2 => ?_
        exact ⟨_, s, u, v, rfl, e4 w2 f1 f2 r1⟩
      · have r0 := ready_after hm (i := iS 7 + 1) (o := ⟨none, .insert _ (.tmp 3) (.const _) (.tmp 53), _, _, _, _⟩) rfl 0 rfl rfl
        have r1 := ready_after hm (i := iS 7 + 1) (o := ⟨none, .insert _ (.tmp 3) (.const _) (.tmp 53), _, _, _, _⟩) rfl 1 rfl rfl
        obtain ⟨mb, es, rfl, e2, e3, e4⟩ := h.pre (k := 7) (by omega) r0 h0
        refine wpOp_insert (i := iS 7 + 1) (o := ⟨none, .insert _ (.tmp 3) (.const _) (.tmp 53), _, _, _, _⟩) rfl rfl _ _ _ _ rfl Try.underlying66 Try.underlying9 rfl rfl rfl e2 e3 fun w2 f1 f2 => ?_
        exact ⟨_, s, u, v, rfl, e4 w2 f1 f2 r1⟩
      · have r0 := ready_after hm (i := iS 8 + 1) (o := ⟨none, .insert _ (.tmp 3) (.const _) (.tmp 59), _, _, _, _⟩) rfl 0 rfl rfl
        have r1 := ready_after hm (i := iS 8 + 1) (o := ⟨none, .insert _ (.tmp 3) (.const _) (.tmp 59), _, _, _, _⟩) rfl 1 rfl rfl
        obtain ⟨mb, es, rfl, e2, e3, e4⟩ := h.pre (k := 8) (by omega) r0 h0
        refine wpOp_insert (i := iS 8 + 1) (o := ⟨none, .insert _ (.tmp 3) (.const _) (.tmp 59), _, _, _, _⟩) rfl rfl _ _ _ _ rfl Try.underlying66 Try.underlying9 rfl rfl rfl e2 e3 fun w2 f1 f2 => ?_
        exact ⟨_, s, u, v, rfl, e4 w2 f1 f2 r1⟩
      · have r0 := ready_after hm (i := iS 9 + 1) (o := ⟨none, .insert _ (.tmp 3) (.const _) (.tmp 65), _, _, _, _⟩) rfl 0 rfl rfl
        have r1 := ready_after hm (i := iS 9 + 1) (o := ⟨none, .insert _ (.tmp 3) (.const _) (.tmp 65), _, _, _, _⟩) rfl 1 rfl rfl
        obtain ⟨mb, es, rfl, e2, e3, e4⟩ := h.pre (k := 9) (by omega) r0 h0
        refine wpOp_insert (i := iS 9 + 1) (o := ⟨none, .insert _ (.tmp 3) (.const _) (.tmp 65), _, _, _, _⟩) rfl rfl _ _ _ _ rfl Try.underlying66 Try.underlying9 rfl rfl rfl e2 e3 fun w2 f1 f2 => ?_
        exact ⟨_, s, u, v, rfl, e4 w2 f1 f2 r1⟩
      · omega
    · have r0 := ready_after hm (i := 73) rfl 0 rfl rfl
      refine wpOp_run (i := 73) (o := ⟨some 66, .move (.tmp 3), _, _, _, _⟩) rfl rfl fun K' hK => ?_
      unfold numA
      go_simp
      refine hK _ _ ?_
      exact ⟨m, s, _, v, rfl, h.f1s r0 h0⟩
    · have r0 := ready_after hm (i := 74) rfl 0 rfl rfl
      refine wpOp_run (i := 74) (o := ⟨some 2, .assign (.tmp 66), _, _, _, _⟩) rfl rfl fun K' hK => ?_
      unfold numA
      go_simp
      refine hK _ _ ?_
      exact ⟨m, s, u, _, rfl, h.f2s r0⟩
  case refine_3 =>
    rintro l a w1 ⟨m, s, u, v, rfl, h⟩ hr
    obtain ⟨mb, es, rfl, h1, h2, h3⟩ := h.done (ready_nil h.sz (by kernel_rfl) hr)
    unfold numA
    go_wp2_with fail
    go_ret
    exact ⟨mb, es, rfl, h1, h2, h3⟩
  case refine_4 =>
    exact NumSt.start (by decide +kernel) (by decide +kernel) (by decide +kernel) (by decide +kernel) (by decide +kernel) (by decide +kernel) (ext_drew w)
end Go.Proofs.Ytmflopeedofkhaa
