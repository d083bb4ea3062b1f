/- JobLeft in plain words: some of a job's lines, with spaces around them and notes among them. No program in sight. -/
import Derived.Test.YtmflopeedofkhaaJobTextL
namespace Go.Proofs.Ytmflopeedofkhaa
set_option linter.unusedSimpArgs false
set_option linter.unusedVariables false
set_option maxRecDepth 100000

def noteL : W8 := [35, 32, 97, 32, 110, 111, 116, 101]
def leftL (keep : Nat → Bool) : Nat → List W8 → List W8
  | _, [] => []
  | i, l :: ls => (if keep i then [9 :: (l ++ [32]), noteL, []] else []) ++ leftL keep (i + 1) ls
def leftI (keep : Nat → Bool) : Nat → List (ItemJ × W8) → List (ItemJ × W8)
  | _, [] => []
  | i, x :: ls => (if keep i then [(x.1, 9 :: (x.2 ++ [32])), (.skip, noteL), (.skip, [])] else []) ++ leftI keep (i + 1) ls
def leftT (keep : Nat → Bool) (j : JobD) : W8 := (leftL keep 0 (linesJ j)).flatMap (fun l => l ++ [10])
theorem left_map (keep : Nat → Bool) : ∀ (i : Nat) (l : List (ItemJ × W8)), (leftI keep i l).map (·.2) = leftL keep i (l.map (·.2))
  | _, [] => rfl
  | i, x :: l => by
    rw [leftI, List.map_append, left_map keep (i + 1) l, List.map_cons, leftL]
    congr 1
    split <;> rfl
theorem left_app (keep : Nat → Bool) : ∀ (i : Nat) (a b : List (ItemJ × W8)), leftI keep i (a ++ b) = leftI keep i a ++ leftI keep (i + a.length) b
  | i, [], b => rfl
  | i, x :: a, b => by
    rw [List.cons_append, leftI, left_app keep (i + 1) a b, leftI, List.append_assoc, List.length_cons, show i + 1 + a.length = i + (a.length + 1) by omega]
theorem words_line2 {k : W8} : ∀ {ws : List W8}, okW k → (∀ w ∈ ws, okW w) → words (lineB k ws ++ [32]) = k :: ws
  | [], hk, _ => by
    unfold lineB
    rw [List.flatMap_nil, List.append_nil, words_cut k [] 32 rfl (fun d hd => (hk.2 d hd).1), if_neg hk.1]
    rfl
  | a :: ws, hk, h => by
    unfold lineB
    rw [List.flatMap_cons, List.cons_append, List.append_assoc, List.cons_append, words_cut k _ 32 rfl (fun d hd => (hk.2 d hd).1), if_neg hk.1]
    have := words_line2 (k := a) (ws := ws) (h a (by simp)) (fun w hw => h w (by simp [hw]))
    unfold lineB at this
    rw [this]
theorem words_tab (l : W8) : words (9 :: l) = words l := by
  have h := words_cut [] l 9 rfl (fun d hd => by cases hd)
  rwa [List.nil_append, if_pos rfl] at h
theorem good_tab {j : JobD} : ∀ {x : ItemJ × W8}, GoodI j x → words (x.2 ++ [32]) = words x.2 → GoodI j (x.1, 9 :: (x.2 ++ [32]))
  | (.own k, s), h, e => ⟨h.1, by rw [words_tab, e]; exact h.2⟩
  | (.src v, s), h, e => ⟨h.1, by rw [words_tab, e]; exact h.2⟩
  | (.skip, s), h, e => by
    show words _ = [] ∨ _
    rw [words_tab, e]
    exact h
theorem note_skip (j : JobD) : GoodI j (.skip, noteL) := .inr ⟨[35], [[97], [110, 111, 116, 101]], by decide, rfl⟩
theorem leftI_good {j : JobD} (keep : Nat → Bool) : ∀ (l : List (ItemJ × W8)) (i : Nat), (∀ x ∈ l, GoodI j x ∧ words (x.2 ++ [32]) = words x.2) → ∀ x ∈ leftI keep i l, GoodI j x
  | [], _, _, x, hx => by cases hx
  | y :: l, i, h, x, hx => by
    rw [leftI] at hx
    rcases List.mem_append.1 hx with hx | hx
    · split at hx
      · have hy := h y (by simp)
        simp only [List.mem_cons, List.not_mem_nil, or_false] at hx
        rcases hx with rfl | rfl | rfl
        · exact good_tab hy.1 hy.2
        · exact note_skip j
        · exact .inl rfl
      · cases hx
    · exact leftI_good keep l (i + 1) (fun z hz => h z (by simp [hz])) x hx
theorem keys_left (keep : Nat → Bool) (f : W8 → W8) : ∀ (ks : List W8) (i : Nat), (keysI (leftI keep i (ks.map (fun k => (.own k, f k))))).Sublist ks ∧ srcsI (leftI keep i (ks.map (fun k => (.own k, f k)))) = [] ∧ ((∀ n, i ≤ n → n < i + ks.length → keep n = true) → keysI (leftI keep i (ks.map (fun k => (.own k, f k)))) = ks)
  | [], i => ⟨List.Sublist.refl _, rfl, fun _ => rfl⟩
  | k :: ks, i => by
    obtain ⟨h1, h2, h3⟩ := keys_left keep f ks (i + 1)
    rw [List.map_cons, leftI, keysI_app, srcsI_app, h2]
    cases hk : keep i with
    | true =>
      rw [if_pos rfl]
      refine ⟨?_, rfl, fun h => ?_⟩
      · exact h1.cons_cons k
      · rw [h3 (fun n a b => h n (by omega) (by rw [List.length_cons]; omega))]; rfl
    | false =>
      rw [if_neg (by simp)]
      refine ⟨?_, rfl, fun h => ?_⟩
      · exact h1.cons k
      · have := h i (Nat.le_refl _) (by rw [List.length_cons]; omega)
        rw [hk] at this; cases this
theorem srcs_left (keep : Nat → Bool) (f : Nat → W8) : ∀ (vs : List Nat) (i : Nat), (∀ n, i ≤ n → keep n = true) → keysI (leftI keep i (vs.map (fun v => (.src v, f v)))) = [] ∧ srcsI (leftI keep i (vs.map (fun v => (.src v, f v)))) = vs
  | [], i, _ => ⟨rfl, rfl⟩
  | v :: vs, i, h => by
    obtain ⟨h1, h2⟩ := srcs_left keep f vs (i + 1) (fun n a => h n (by omega))
    rw [List.map_cons, leftI, keysI_app, srcsI_app, h1, h2, h i (Nat.le_refl _), if_pos rfl]
    exact ⟨rfl, rfl⟩
theorem read_left {j : JobD} (ok : JobOk j) (hm : mayJ j = true) (keep : Nat → Bool) (hk : ∀ n, 12 ≤ n → keep n = true) : ∃ x : JobD, readJ (leftT keep j) = (x, 0, 0) ∧ ((∀ n, n < 12 → keep n = true) → x = j) := by
  have hk3 := (may_inB ok hm).1
  have hgood : ∀ x ∈ itemsJ j, GoodI j x ∧ words (x.2 ++ [32]) = words x.2 := fun x hx => by
    refine ⟨items_good ok hm x hx, ?_⟩
    unfold itemsJ at hx
    rcases List.mem_append.1 hx with h | h
    · obtain ⟨k, hk, rfl⟩ := List.mem_map.1 h
      exact (words_line2 (okW_const k (by simp [hk])) (args_ok hk3 k)).trans (words_line (okW_const k (by simp [hk])) (args_ok hk3 k)).symm
    · obtain ⟨v, hv, rfl⟩ := List.mem_map.1 h
      exact (words_line2 (okW_const kSource (by simp)) (srcW_ok v)).trans (words_line (okW_const kSource (by simp)) (srcW_ok v)).symm
  have hg := leftI_good keep (itemsJ j) 0 hgood
  have hsp : leftI keep 0 (itemsJ j) = leftI keep 0 (ordK.map (fun k => (.own k, lineB k (argsJ j k)))) ++ leftI keep 12 (j.src.map (fun v => (.src v, srcLine v))) := by
    unfold itemsJ
    rw [left_app]
    rfl
  obtain ⟨k1, k2, k3⟩ := keys_left keep (fun k => lineB k (argsJ j k)) ordK 0
  obtain ⟨s1, s2⟩ := srcs_left keep srcLine j.src 12 hk
  have hkeys : keysI (leftI keep 0 (itemsJ j)) = keysI (leftI keep 0 (ordK.map (fun k => (.own k, lineB k (argsJ j k))))) := by rw [hsp, keysI_app, s1, List.append_nil]
  have hsrcs : srcsI (leftI keep 0 (itemsJ j)) = j.src := by rw [hsp, srcsI_app, k2, s2]; rfl
  have hpl : ∀ l ∈ leftL keep 0 (linesJ j), plainL l := by
    rw [← items_lines, ← left_map]
    have hall : ∀ (l : List (ItemJ × W8)) (i : Nat), (∀ x ∈ l, plainL x.2) → ∀ s ∈ (leftI keep i l).map (·.2), plainL s := by
      intro l
      induction l with
      | nil => intro i _ s hs; cases hs
      | cons y l ih =>
        intro i h s hs
        rw [leftI, List.map_append] at hs
        rcases List.mem_append.1 hs with hs | hs
        · split at hs
          · simp only [List.map_cons, List.map_nil, List.mem_cons, List.not_mem_nil, or_false] at hs
            rcases hs with rfl | rfl | rfl
            · intro c hc
              rcases List.mem_cons.1 hc with rfl | hc
              · rfl
              · rcases List.mem_append.1 hc with hc | hc
                · exact h y (by simp) c hc
                · rw [List.mem_singleton] at hc; subst hc; rfl
            · intro c hc
              revert c
              decide
            · intro c hc; cases hc
          · cases hs
        · exact ih (i + 1) (fun x hx => h x (by simp [hx])) s hs
    refine hall _ 0 (fun x hx => ?_)
    have : x.2 ∈ linesJ j := by rw [← items_lines]; exact List.mem_map_of_mem hx
    exact (lines_plain ok hm _ this).1
  have hl := lines_flat _ [] hpl
  rw [List.append_nil, lines_nil] at hl
  have h := read_all ok hm hg (by rw [hkeys]; exact k1.nodup ordK_nodup) hsrcs []
  rw [left_map, items_lines] at h
  refine ⟨(leftI keep 0 (itemsJ j)).foldl (fun x i => stepI j x i.1) beginJ, ?_, fun hall => ?_⟩
  · unfold readJ leftT
    rw [hl, h, readJGo, if_neg]
    rw [fin_src, hsrcs]
    exact (may_inB ok hm).2.2.2.2.2
  · refine fin_all hg (fun k hk => ?_) hsrcs
    rw [hkeys, k3 (fun n _ b => hall n b)]
    exact hk
end Go.Proofs.Ytmflopeedofkhaa
