/- A job's lines, read in any order, with notes among them. No program in sight. -/
import Derived.Test.YtmflopeedofkhaaJobTextP
namespace Go.Proofs.Ytmflopeedofkhaa
set_option linter.unusedSimpArgs false
set_option linter.unusedVariables false
set_option maxRecDepth 100000

theorem setC_field (x : JobD) (v : Nat) {c : Nat} (hc : c ∈ [2, 3, 5, 6, 7, 8, 9, 10, 11, 12, 13, 14]) {f : Nat} (hf : f < 15) : fieldJ (setC x c v) f = if f = c then v else fieldJ x f := by
  have hf' : f ∈ [0, 1, 2, 3, 4, 5, 6, 7, 8, 9, 10, 11, 12, 13, 14] := by simp; omega
  simp only [List.mem_cons, List.not_mem_nil, or_false] at hc hf'
  rcases hc with rfl | rfl | rfl | rfl | rfl | rfl | rfl | rfl | rfl | rfl | rfl | rfl <;>
  rcases hf' with rfl | rfl | rfl | rfl | rfl | rfl | rfl | rfl | rfl | rfl | rfl | rfl | rfl | rfl | rfl <;> rfl
theorem setL_src (x j : JobD) (k : W8) : (setL x j k).src = x.src := by
  unfold setL
  split
  · rfl
  split
  · rfl
  have : ∀ (l : List (Nat × Nat × Nat)) (x : JobD), (l.foldl (fun x e => setC x e.1 (jobC j e.1)) x).src = x.src := by
    intro l
    induction l with
    | nil => intro x; rfl
    | cons e l ih => intro x; rw [List.foldl_cons, ih, setC_src]
  exact this _ _
theorem setL_field (x j : JobD) {k : W8} (hk : k ∈ ordK) {f : Nat} (hf : f < 15) : fieldJ (setL x j k) f = if f ∈ fieldsK k then fieldJ j f else fieldJ x f := by
  unfold setL fieldsK
  by_cases h1 : k = kWalk
  · rw [if_pos h1, if_pos h1]
    by_cases h : f = 0
    · subst h; rfl
    · rw [if_neg (by simpa using h)]
      unfold fieldJ
      rw [if_neg h, if_neg h]
      rfl
  rw [if_neg h1, if_neg h1]
  by_cases h2 : k = kSeed
  · rw [if_pos h2, if_pos h2]
    by_cases h : f = 1
    · subst h; rfl
    · rw [if_neg (by simpa using h)]
      unfold fieldJ
      rw [if_neg h, if_neg h]
      rfl
  rw [if_neg h2, if_neg h2]
  have hall : ∀ (l : List (Nat × Nat × Nat)) (x : JobD), (∀ e ∈ l, e.1 ∈ [2, 3, 5, 6, 7, 8, 9, 10, 11, 12, 13, 14]) → fieldJ (l.foldl (fun x e => setC x e.1 (jobC j e.1)) x) f = if f ∈ l.map (·.1) then fieldJ j f else fieldJ x f := by
    intro l
    induction l with
    | nil => intro x _; rfl
    | cons e l ih =>
      intro x h
      have he := h e (by simp)
      rw [List.foldl_cons, ih _ (fun y hy => h y (by simp [hy])), setC_field x _ he hf]
      by_cases h3 : f ∈ l.map (·.1)
      · rw [if_pos h3, if_pos (by simp [h3])]
      · rw [if_neg h3]
        by_cases h4 : f = e.1
        · rw [if_pos h4, if_pos (by simp [h4])]
          have h5 : f ≠ 0 ∧ f ≠ 1 := by
            rw [h4]
            constructor <;> (intro e0; rw [e0] at he; revert he; decide)
          unfold fieldJ
          rw [if_neg h5.1, if_neg h5.2, h4]
        · rw [if_neg h4, if_neg (by rw [List.map_cons, List.mem_cons]; exact fun e => e.elim h4 h3)]
  refine hall _ _ (fun e he => ?_)
  have h := entry_mem e he
  have hx' : e = (2, 0, 65536) ∨ e = (3, 1, 65536) ∨ e = (5, 0, 4294967295) ∨ e = (6, 1, 4294967295) ∨ e = (7, 1, 65536) ∨ e = (8, 1, 65536) ∨ e = (9, 1, 1024) ∨ e = (10, 0, 1024) ∨ e = (11, 1, 65536) ∨ e = (12, 1, 16777216) ∨ e = (13, 2, 65536) ∨ e = (14, 1, 4096) := by
    simpa [numTab] using h
  rcases hx' with rfl | rfl | rfl | rfl | rfl | rfl | rfl | rfl | rfl | rfl | rfl | rfl <;> simp
/-! ### lines of all kinds -/
inductive ItemJ where
  | own (k : W8)
  | src (v : Nat)
  | skip
def GoodI (j : JobD) : ItemJ × W8 → Prop
  | (.own k, s) => k ∈ ordK ∧ words s = k :: argsJ j k
  | (.src v, s) => v < 4294967296 ∧ words s = [kSource, digits v]
  | (.skip, s) => words s = [] ∨ ∃ k ws, words s = k :: ws ∧ k.head? = some 35
def stepI (j : JobD) (x : JobD) : ItemJ → JobD
  | .own k => setL x j k
  | .src v => { x with src := x.src ++ [v] }
  | .skip => x
def metI (met : List W8) : ItemJ → List W8
  | .own k => met ++ [k]
  | .src _ => met ++ [kSource]
  | .skip => met
def keysI (l : List (ItemJ × W8)) : List W8 := l.filterMap (fun i => match i.1 with | .own k => some k | _ => none)
def srcsI (l : List (ItemJ × W8)) : List Nat := l.filterMap (fun i => match i.1 with | .src v => some v | _ => none)
theorem head_plain {k : W8} (h : okW k) : ¬ k.head? = some 35 := fun e => by
  cases k with
  | nil => cases e
  | cons c k =>
    simp only [List.head?_cons, Option.some.injEq] at e
    have := (h.2 c (by simp)).2.2
    rw [e] at this
    simp at this
theorem wants_src : wantsJ kSource = 1 := by decide
theorem read_items {j : JobD} (ok : JobOk j) (hm : mayJ j = true) : ∀ (l : List (ItemJ × W8)) (x : JobD) (met : List W8) (n : Nat) (rest : List W8), (∀ i ∈ l, GoodI j i) → x.stop ≤ x.od → (keysI l).Nodup → (∀ k ∈ keysI l, k ∉ met) → (srcsI l).Nodup → (∀ v ∈ srcsI l, v ∉ x.src) → x.src.length + (srcsI l).length ≤ 256 →
    readJGo x met n (l.map (·.2) ++ rest) = readJGo (l.foldl (fun x i => stepI j x i.1) x) (l.foldl (fun m i => metI m i.1) met) (n + l.length) rest
  | [], x, met, n, rest, _, _, _, _, _, _, _ => rfl
  | (.own k, s) :: l, x, met, n, rest, hg, hx, hk, hkm, hs, hsx, hc => by
    obtain ⟨g1, g2⟩ : k ∈ ordK ∧ words s = k :: argsJ j k := hg _ (List.mem_cons_self ..)
    have hkc : keysI ((.own k, s) :: l) = k :: keysI l := rfl
    have hsc : srcsI ((.own k, s) :: l) = srcsI l := rfl
    rw [hkc] at hk hkm
    rw [hsc] at hs hsx hc
    obtain ⟨h1, h2⟩ := lineJ_own ok hm hx g1 (hkm k (by simp))
    rw [List.map_cons, List.cons_append, readJGo, g2]
    simp only
    rw [if_neg (head_plain (okW_const k (by simp [g1]))), h1, if_neg (by simp)]
    rw [read_items ok hm l (setL x j k) (met ++ [k]) (n + 1) rest (fun i hi => hg i (by simp [hi])) h2 (List.nodup_cons.1 hk).2 (fun k' hk' => by
      rw [List.mem_append, List.mem_singleton]
      rintro (h | h)
      · exact hkm k' (by simp [hk']) h
      · subst h; exact (List.nodup_cons.1 hk).1 hk') hs (by rw [setL_src]; exact hsx) (by rw [setL_src]; exact hc)]
    simp only [List.foldl_cons, List.length_cons, stepI, metI]
    rw [show n + 1 + l.length = n + (l.length + 1) by omega]
  | (.src v, s) :: l, x, met, n, rest, hg, hx, hk, hkm, hs, hsx, hc => by
    obtain ⟨g1, g2⟩ : v < 4294967296 ∧ words s = [kSource, digits v] := hg _ (List.mem_cons_self ..)
    have hkc : keysI ((.src v, s) :: l) = keysI l := rfl
    have hsc : srcsI ((.src v, s) :: l) = v :: srcsI l := rfl
    rw [hkc] at hk hkm
    rw [hsc] at hs hsx hc
    rw [List.length_cons] at hc
    have hd : num (digits v) 4294967295 = (v, 0) := by rw [num_digits, if_neg (by omega)]
    have h1 : lineJ x met kSource [digits v] = ({ x with src := x.src ++ [v] }, 0) := by
      unfold lineJ
      rw [wants_src, if_neg (by simp), if_neg (fun e => e.2 rfl), if_neg (by decide), if_neg (by decide), if_pos rfl]
      unfold sourceJ
      rw [show [digits v][0]! = digits v from rfl, hd, if_neg (by simp), if_neg (hsx v (by simp)), if_neg (by omega)]
    rw [List.map_cons, List.cons_append, readJGo, g2]
    simp only
    rw [if_neg (head_plain (okW_const kSource (by simp))), h1, if_neg (by simp)]
    rw [read_items ok hm l { x with src := x.src ++ [v] } (met ++ [kSource]) (n + 1) rest (fun i hi => hg i (by simp [hi])) hx hk (fun k' hk' => by
      rw [List.mem_append, List.mem_singleton]
      rintro (h | h)
      · exact hkm k' hk' h
      · subst h
        unfold keysI at hk'
        obtain ⟨i, hi, e⟩ := List.mem_filterMap.1 hk'
        have hgi := hg i (by simp [hi])
        obtain ⟨it, si⟩ := i
        cases it with
        | own k2 =>
          simp only [Option.some.injEq] at e
          subst e
          have h9 := (wants_args j hgi.1).2.2
          exact h9 rfl
        | src _ => simp at e
        | skip => simp at e) (List.nodup_cons.1 hs).2 (fun v' hv' => by
      show v' ∉ x.src ++ [v]
      rw [List.mem_append, List.mem_singleton]
      rintro (h | h)
      · exact hsx v' (by simp [hv']) h
      · subst h; exact (List.nodup_cons.1 hs).1 hv') (by show (x.src ++ [v]).length + _ ≤ 256; rw [List.length_append, List.length_singleton]; omega)]
    simp only [List.foldl_cons, List.length_cons, stepI, metI]
    rw [show n + 1 + l.length = n + (l.length + 1) by omega]
  | (.skip, s) :: l, x, met, n, rest, hg, hx, hk, hkm, hs, hsx, hc => by
    have g : words s = [] ∨ ∃ k ws, words s = k :: ws ∧ k.head? = some 35 := hg _ (List.mem_cons_self ..)
    have hkc : keysI ((.skip, s) :: l) = keysI l := rfl
    have hsc : srcsI ((.skip, s) :: l) = srcsI l := rfl
    rw [hkc] at hk hkm
    rw [hsc] at hs hsx hc
    have ih := read_items ok hm l x met (n + 1) rest (fun i hi => hg i (by simp [hi])) hx hk hkm hs hsx hc
    have h0 : readJGo x met n (s :: (l.map (·.2) ++ rest)) = readJGo x met (n + 1) (l.map (·.2) ++ rest) := by
      rw [readJGo]
      rcases g with g | ⟨k, ws, g, h⟩
      · rw [g]
      · rw [g]; simp only; rw [if_pos h]
    rw [List.map_cons, List.cons_append, h0, ih, List.length_cons, show n + (l.length + 1) = n + 1 + l.length by omega]
    rfl
/-- what the lines leave -/
theorem fin_src (j : JobD) : ∀ (l : List (ItemJ × W8)) (x : JobD), (l.foldl (fun x i => stepI j x i.1) x).src = x.src ++ srcsI l
  | [], x => by simp [srcsI]
  | (.own k, s) :: l, x => by rw [List.foldl_cons, fin_src j l]; show (setL x j k).src ++ _ = _; rw [setL_src]; rfl
  | (.src v, s) :: l, x => by rw [List.foldl_cons, fin_src j l]; show (x.src ++ [v]) ++ srcsI l = x.src ++ (v :: srcsI l); simp
  | (.skip, s) :: l, x => by rw [List.foldl_cons, fin_src j l]; rfl
theorem fin_field (j : JobD) {f : Nat} (hf : f < 15) : ∀ (l : List (ItemJ × W8)) (x : JobD), (∀ i ∈ l, GoodI j i) → fieldJ (l.foldl (fun x i => stepI j x i.1) x) f = if ∃ k ∈ keysI l, f ∈ fieldsK k then fieldJ j f else fieldJ x f
  | [], x, _ => by simp [keysI]
  | (.own k, s) :: l, x, hg => by
    have g1 : k ∈ ordK := (hg _ (List.mem_cons_self ..)).1
    rw [List.foldl_cons, fin_field j hf l _ (fun i hi => hg i (by simp [hi]))]
    have hkc : keysI ((.own k, s) :: l) = k :: keysI l := rfl
    rw [hkc]
    by_cases h : ∃ k ∈ keysI l, f ∈ fieldsK k
    · rw [if_pos h, if_pos (by obtain ⟨k', h1, h2⟩ := h; exact ⟨k', by simp [h1], h2⟩)]
    · rw [if_neg h]
      show fieldJ (setL x j k) f = _
      rw [setL_field x j g1 hf]
      by_cases h2 : f ∈ fieldsK k
      · rw [if_pos h2, if_pos ⟨k, by simp, h2⟩]
      · rw [if_neg h2, if_neg (by
          rintro ⟨k', h3, h4⟩
          rcases List.mem_cons.1 h3 with rfl | h3
          · exact h2 h4
          · exact h ⟨k', h3, h4⟩)]
  | (.src v, s) :: l, x, hg => by
    rw [List.foldl_cons, fin_field j hf l _ (fun i hi => hg i (by simp [hi]))]
    rfl
  | (.skip, s) :: l, x, hg => by
    rw [List.foldl_cons, fin_field j hf l _ (fun i hi => hg i (by simp [hi]))]
    rfl
theorem fields_all {f : Nat} (hf : f < 15) (h4 : f ≠ 4) : ∃ k ∈ ordK, f ∈ fieldsK k := by
  have hf' : f ∈ [0, 1, 2, 3, 4, 5, 6, 7, 8, 9, 10, 11, 12, 13, 14] := by simp; omega
  simp only [List.mem_cons, List.not_mem_nil, or_false] at hf'
  rcases hf' with rfl | rfl | rfl | rfl | rfl | rfl | rfl | rfl | rfl | rfl | rfl | rfl | rfl | rfl | rfl
  · exact ⟨ordK[0]!, by decide, by decide⟩
  · exact ⟨ordK[1]!, by decide, by decide⟩
  · exact ⟨ordK[2]!, by decide, by decide⟩
  · exact ⟨ordK[3]!, by decide, by decide⟩
  · exact absurd rfl h4
  · exact ⟨ordK[4]!, by decide, by decide⟩
  · exact ⟨ordK[4]!, by decide, by decide⟩
  · exact ⟨ordK[5]!, by decide, by decide⟩
  · exact ⟨ordK[5]!, by decide, by decide⟩
  · exact ⟨ordK[6]!, by decide, by decide⟩
  · exact ⟨ordK[7]!, by decide, by decide⟩
  · exact ⟨ordK[8]!, by decide, by decide⟩
  · exact ⟨ordK[9]!, by decide, by decide⟩
  · exact ⟨ordK[10]!, by decide, by decide⟩
  · exact ⟨ordK[11]!, by decide, by decide⟩
/-- all twelve lines, in whatever order, and the sources -/
theorem fin_all {j : JobD} {l : List (ItemJ × W8)} (hg : ∀ i ∈ l, GoodI j i) (hk : ∀ k ∈ ordK, k ∈ keysI l) (hs : srcsI l = j.src) : l.foldl (fun x i => stepI j x i.1) beginJ = j := by
  refine jobD_ext (fun f hf => ?_) (by rw [fin_src, hs]; rfl)
  rw [fin_field j hf l _ hg]
  by_cases h4 : f = 4
  · subst h4; split <;> rfl
  · obtain ⟨k, h1, h2⟩ := fields_all hf h4
    rw [if_pos ⟨k, hk k h1, h2⟩]
theorem read_all {j : JobD} (ok : JobOk j) (hm : mayJ j = true) {l : List (ItemJ × W8)} (hg : ∀ i ∈ l, GoodI j i) (hn : (keysI l).Nodup) (hs : srcsI l = j.src) (rest : List W8) :
    readJGo beginJ [] 0 (l.map (·.2) ++ rest) = readJGo (l.foldl (fun x i => stepI j x i.1) beginJ) (l.foldl (fun m i => metI m i.1) []) l.length rest := by
  obtain ⟨_, _, _, h4, h5, _⟩ := may_inB ok hm
  have h := read_items ok hm l beginJ [] 0 rest hg (by decide) hn (fun k _ h => by cases h) (by rw [hs]; exact h4) (fun v _ h => by cases h) (by rw [hs]; show 0 + _ ≤ 256; omega)
  rw [h, Nat.zero_add]
end Go.Proofs.Ytmflopeedofkhaa
