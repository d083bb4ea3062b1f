/- A job's text, printed and read again, in any order of its lines. No program in sight. -/
import Derived.Test.YtmflopeedofkhaaByJobP
namespace Go.Proofs.Ytmflopeedofkhaa
set_option linter.unusedSimpArgs false
set_option linter.unusedVariables false
set_option maxRecDepth 100000

/-- the words in which a job is printed -/
def ordK : List W8 := [kWalk, kSeed, [108, 101, 110, 103, 116, 104], [119, 97, 108, 107, 115], [114, 101, 115, 116, 97, 114, 116], [98, 105, 97, 115], [116, 114, 105, 101, 115], [98, 101, 115, 116], [115, 104, 97, 114, 100], [114, 111, 111, 109], [112, 111, 111, 108], [115, 111, 114, 116]]
def argsJ (j : JobD) (k : W8) : List W8 := if k = kWalk then [kindW[j.kind]!] else if k = kSeed then [digits j.seed] else (entryJ k).map (fun x => digits (jobC j x.1))
/-- a line -/
def lineB (k : W8) (ws : List W8) : W8 := k ++ ws.flatMap (fun a => 32 :: a)
def ordLines (j : JobD) : List W8 := ordK.map (fun k => lineB k (argsJ j k))
def srcLine (v : Nat) : W8 := lineB kSource [digits v]
def linesJ (j : JobD) : List W8 := ordLines j ++ j.src.map srcLine
def printJ (j : JobD) : W8 := (linesJ j).flatMap (fun l => l ++ [10])
/-- a job's fields but the sources -/
def fieldJ (j : JobD) (f : Nat) : Nat := if f = 0 then j.kind else if f = 1 then j.seed else jobC j f
def fieldsK (k : W8) : List Nat := if k = kWalk then [0] else if k = kSeed then [1] else (entryJ k).map (·.1)
theorem jobD_ext {a b : JobD} (h : ∀ f, f < 15 → fieldJ a f = fieldJ b f) (hs : a.src = b.src) : a = b := by
  have h0 := h 0 (by decide)
  have h1 := h 1 (by decide)
  have h2 := h 2 (by decide)
  have h3 := h 3 (by decide)
  have h5 := h 5 (by decide)
  have h6 := h 6 (by decide)
  have h7 := h 7 (by decide)
  have h8 := h 8 (by decide)
  have h9 := h 9 (by decide)
  have h10 := h 10 (by decide)
  have h11 := h 11 (by decide)
  have h12 := h 12 (by decide)
  have h13 := h 13 (by decide)
  have h14 := h 14 (by decide)
  simp [fieldJ, jobC] at h0 h1 h2 h3 h5 h6 h7 h8 h9 h10 h11 h12 h13 h14
  cases a; cases b
  simp_all
/-- no word holds a space or a line feed -/
def okW (w : W8) : Prop := w ≠ [] ∧ ∀ c ∈ w, isSp c = false ∧ (c == 10) = false ∧ (c == 35) = false
theorem dig_plain {c : UInt8} (h : isDig c = true) : isSp c = false ∧ (c == 10) = false ∧ (c == 35) = false := by
  unfold isDig at h
  simp only [Bool.and_eq_true, decide_eq_true_eq] at h
  obtain ⟨h1, h2⟩ := h
  have h1 : 48 ≤ c.toNat := h1
  refine ⟨?_, ?_, ?_⟩
  · unfold isSp
    rw [Bool.or_eq_false_iff]
    exact ⟨beq_eq_false_iff_ne.2 (fun e => by subst e; simp at h1), beq_eq_false_iff_ne.2 (fun e => by subst e; simp at h1)⟩
  · exact beq_eq_false_iff_ne.2 (fun e => by subst e; simp at h1)
  · exact beq_eq_false_iff_ne.2 (fun e => by subst e; simp at h1)
theorem okW_digits (n : Nat) : okW (digits n) := ⟨digits_ne n, fun c hc => dig_plain (List.all_eq_true.1 (digits_all n) c hc)⟩
theorem words_line {k : W8} : ∀ {ws : List W8}, okW k → (∀ w ∈ ws, okW w) → words (lineB k ws) = k :: ws
  | [], hk, _ => by
    unfold lineB
    rw [List.flatMap_nil, List.append_nil, words_last k (fun d hd => (hk.2 d hd).1), if_neg hk.1]
  | a :: ws, hk, h => by
    unfold lineB
    rw [List.flatMap_cons, List.cons_append, words_cut k _ 32 rfl (fun d hd => (hk.2 d hd).1), if_neg hk.1]
    have := words_line (k := a) (ws := ws) (h a (by simp)) (fun w hw => h w (by simp [hw]))
    unfold lineB at this
    rw [this]
theorem okW_const : ∀ k ∈ kSource :: (ordK ++ kindW), okW k := by
  intro k hk
  have hk' : k ∈ kSource :: (ordK ++ kindW) ∧ True := ⟨hk, trivial⟩
  simp only [ordK, kindW, kSource, kWalk, kSeed, List.cons_append, List.nil_append, List.mem_cons, List.not_mem_nil, or_false, and_true] at hk'
  rcases hk' with rfl | rfl | rfl | rfl | rfl | rfl | rfl | rfl | rfl | rfl | rfl | rfl | rfl | rfl | rfl | rfl <;> exact ⟨by simp, by decide⟩
theorem args_ok {j : JobD} (hk : j.kind < 3) (k : W8) : ∀ w ∈ argsJ j k, okW w := by
  intro w hw
  unfold argsJ at hw
  split at hw
  · rw [List.mem_singleton] at hw
    subst hw
    refine okW_const _ ?_
    have : kindW[j.kind]! ∈ kindW := by rw [getElem!_pos kindW j.kind (by simpa [kindW] using hk)]; exact List.getElem_mem _
    exact List.mem_cons_of_mem _ (List.mem_append_right _ this)
  · split at hw
    · rw [List.mem_singleton] at hw; subst hw; exact okW_digits _
    · obtain ⟨x, _, rfl⟩ := List.mem_map.1 hw; exact okW_digits _
/-! ### a line read -/
def setL (x j : JobD) (k : W8) : JobD := if k = kWalk then { x with kind := j.kind } else if k = kSeed then { x with seed := j.seed } else (entryJ k).foldl (fun x e => setC x e.1 (jobC j e.1)) x
theorem takeC_digits (j : JobD) : ∀ (cs : List (Nat × Nat × Nat)) (x : JobD), (∀ e ∈ cs, inB (jobC j e.1) e.2.1 e.2.2 = true) → takeC x cs (cs.map (fun e => digits (jobC j e.1))) = (cs.foldl (fun x e => setC x e.1 (jobC j e.1)) x, 0)
  | [], x, _ => by unfold takeC; rfl
  | e :: cs, x, h => by
    have he := of_decide_eq_true (h e (by simp))
    have hn : numL (digits (jobC j e.1)) e.2.1 e.2.2 = (jobC j e.1, 0) := by
      have hd : num (digits (jobC j e.1)) e.2.2 = (jobC j e.1, 0) := by rw [num_digits, if_neg (by omega)]
      unfold numL
      rw [hd, if_neg (show ¬ (0 = 0 ∧ jobC j e.1 < e.2.1) by omega)]
    rw [List.map_cons, takeC, hn, if_neg (by simp), List.foldl_cons]
    exact takeC_digits j cs _ (fun y hy => h y (by simp [hy]))
theorem may_inB {j : JobD} (ok : JobOk j) (h : mayJ j = true) : j.kind < 3 ∧ j.stop ≤ j.od ∧ allNums j = true ∧ j.src.Nodup ∧ j.src.length ≤ 256 ∧ j.src ≠ [] := by
  rw [mayJ_nums ok] at h
  simp only [Bool.and_eq_true, decide_eq_true_eq] at h
  obtain ⟨⟨⟨⟨⟨h1, h2⟩, h3⟩, h4⟩, h5⟩, h6⟩ := h
  exact ⟨h1, h2, h5, h6, h4, List.length_pos_iff.1 h3⟩
theorem entry_in {j : JobD} (h : allNums j = true) {k : W8} : ∀ e ∈ entryJ k, inB (jobC j e.1) e.2.1 e.2.2 = true := fun e he => by
  rcases entry_cases k with h1 | ⟨t, ht, _, h1⟩
  · rw [h1] at he; cases he
  · rw [h1] at he
    exact List.all_eq_true.1 (List.all_eq_true.1 h t ht) e he
theorem kindOf_at3 {n : Nat} (h : n < 3) : kindOf kindW[n]! = some n := by
  have : n = 0 ∨ n = 1 ∨ n = 2 := by omega
  rcases this with rfl | rfl | rfl <;> decide
theorem wants_args (j : JobD) {k : W8} (hk : k ∈ ordK) : wantsJ k ≠ 0 ∧ wantsJ k = (argsJ j k).length ∧ k ≠ kSource := by
  unfold wantsJ argsJ
  by_cases h1 : k = kWalk
  · subst h1; simp; decide
  by_cases h2 : k = kSeed
  · subst h2; simp [show kSeed ≠ kWalk by decide]; decide
  have h3 : k ≠ kSource := by rintro rfl; revert hk; decide
  have h4 : (entryJ k).length ≠ 0 := by
    simp only [ordK, List.mem_cons, List.not_mem_nil, or_false] at hk
    rcases hk with rfl | rfl | rfl | rfl | rfl | rfl | rfl | rfl | rfl | rfl | rfl | rfl
    · exact absurd rfl h1
    · exact absurd rfl h2
    all_goals decide
  rw [if_neg (by simp [h1, h2, h3]), if_neg h1, if_neg h2]
  exact ⟨h4, by simp, h3⟩
theorem lineJ_own {x j : JobD} (ok : JobOk j) (hm : mayJ j = true) (hx : x.stop ≤ x.od) {met : List W8} {k : W8} (hk : k ∈ ordK) (hn : k ∉ met) : lineJ x met k (argsJ j k) = (setL x j k, 0) ∧ (setL x j k).stop ≤ (setL x j k).od := by
  obtain ⟨hk3, hle, hnum, _, _, _⟩ := may_inB ok hm
  obtain ⟨w1, w2, w3⟩ := wants_args j hk
  unfold lineJ
  rw [if_neg (fun e => e.elim w1 (fun e => e w2)), if_neg (fun e => hn e.1)]
  unfold argsJ setL
  by_cases h1 : k = kWalk
  · rw [if_pos h1, if_pos h1, if_pos h1]
    unfold walkJ
    rw [show [kindW[j.kind]!][0]! = kindW[j.kind]! from rfl, kindOf_at3 hk3]
    exact ⟨rfl, hx⟩
  rw [if_neg h1, if_neg h1, if_neg h1]
  by_cases h2 : k = kSeed
  · rw [if_pos h2, if_pos h2, if_pos h2]
    unfold seedJ
    have h3 := ok.seed
    have hd : num (digits j.seed) 18446744073709551615 = (j.seed, 0) := by rw [num_digits, if_neg (by omega)]
    rw [show [digits j.seed][0]! = digits j.seed from rfl, hd, if_neg (by simp)]
    exact ⟨rfl, hx⟩
  rw [if_neg h2, if_neg h2, if_neg h2, if_neg w3]
  unfold numsJ
  rw [takeC_digits j (entryJ k) x (entry_in hnum), if_neg (by simp)]
  have hle2 : ((entryJ k).foldl (fun x e => setC x e.1 (jobC j e.1)) x).stop ≤ ((entryJ k).foldl (fun x e => setC x e.1 (jobC j e.1)) x).od := by
    simp only [ordK, List.mem_cons, List.not_mem_nil, or_false] at hk
    rcases hk with rfl | rfl | rfl | rfl | rfl | rfl | rfl | rfl | rfl | rfl | rfl | rfl
    · exact absurd rfl h1
    · exact absurd rfl h2
    all_goals first
      | exact hx
      | exact hle
  rw [if_neg (by simp only; omega)]
  exact ⟨rfl, hle2⟩
end Go.Proofs.Ytmflopeedofkhaa
