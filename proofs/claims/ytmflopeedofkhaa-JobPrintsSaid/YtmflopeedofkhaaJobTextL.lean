/- What law 19's statements say of a job's text. No program in sight. -/
import Derived.Test.YtmflopeedofkhaaJobTextQ
namespace Go.Proofs.Ytmflopeedofkhaa
set_option linter.unusedSimpArgs false
set_option linter.unusedVariables false
set_option maxRecDepth 100000

def plainL (l : W8) : Prop := ∀ c ∈ l, (c == 10) = false
theorem lines_nil : lines [] = [] := rfl
theorem lines_flat : ∀ (ls : List W8) (t : W8), (∀ l ∈ ls, plainL l) → lines (ls.flatMap (fun l => l ++ [10]) ++ t) = ls ++ lines t
  | [], t, _ => rfl
  | l :: ls, t, h => by
    rw [List.flatMap_cons, List.append_assoc, List.append_assoc, List.singleton_append, lines_cut l _ (h l (by simp)), lines_flat ls t (fun x hx => h x (by simp [hx]))]
    rfl
theorem lineB_plain {k : W8} {ws : List W8} (hk : okW k) (h : ∀ w ∈ ws, okW w) : plainL (lineB k ws) ∧ lineB k ws ≠ [] := by
  refine ⟨fun c hc => ?_, ?_⟩
  · unfold lineB at hc
    rcases List.mem_append.1 hc with hc | hc
    · exact (hk.2 c hc).2.1
    · obtain ⟨a, ha, hc⟩ := List.mem_flatMap.1 hc
      rcases List.mem_cons.1 hc with rfl | hc
      · rfl
      · exact ((h a ha).2 c hc).2.1
  · unfold lineB
    intro e
    exact hk.1 (List.append_eq_nil_iff.1 e).1
theorem srcW_ok (v : Nat) : ∀ w ∈ [digits v], okW w := fun w hw => by rw [List.mem_singleton] at hw; subst hw; exact okW_digits v
def itemsJ (j : JobD) : List (ItemJ × W8) := ordK.map (fun k => (.own k, lineB k (argsJ j k))) ++ j.src.map (fun v => (.src v, srcLine v))
theorem items_lines (j : JobD) : (itemsJ j).map (·.2) = linesJ j := by
  unfold itemsJ linesJ ordLines
  rw [List.map_append, List.map_map, List.map_map]
  rfl
theorem own_good {j : JobD} (hk : j.kind < 3) {k : W8} (h : k ∈ ordK) : GoodI j (.own k, lineB k (argsJ j k)) := ⟨h, words_line (okW_const k (by simp [h])) (args_ok hk k)⟩
theorem src_good {j : JobD} (ok : JobOk j) {v : Nat} (h : v ∈ j.src) : GoodI j (.src v, srcLine v) := ⟨ok.src v h, words_line (okW_const kSource (by simp)) (srcW_ok v)⟩
theorem items_good {j : JobD} (ok : JobOk j) (hm : mayJ j = true) : ∀ i ∈ itemsJ j, GoodI j i := fun i hi => by
  unfold itemsJ at hi
  rcases List.mem_append.1 hi with h | h
  · obtain ⟨k, hk, rfl⟩ := List.mem_map.1 h; exact own_good (may_inB ok hm).1 hk
  · obtain ⟨v, hv, rfl⟩ := List.mem_map.1 h; exact src_good ok hv
theorem keys_own (j : JobD) (f : W8 → W8) : ∀ ks : List W8, keysI (ks.map (fun k => (.own k, f k))) = ks ∧ srcsI (ks.map (fun k => (.own k, f k))) = []
  | [] => ⟨rfl, rfl⟩
  | k :: ks => by
    obtain ⟨h1, h2⟩ := keys_own j f ks
    exact ⟨congrArg (k :: ·) h1, h2⟩
theorem keys_src (f : Nat → W8) : ∀ vs : List Nat, keysI (vs.map (fun v => (.src v, f v))) = [] ∧ srcsI (vs.map (fun v => (.src v, f v))) = vs
  | [] => ⟨rfl, rfl⟩
  | v :: vs => by
    obtain ⟨h1, h2⟩ := keys_src f vs
    exact ⟨h1, congrArg (v :: ·) h2⟩
theorem keysI_app (a b : List (ItemJ × W8)) : keysI (a ++ b) = keysI a ++ keysI b := List.filterMap_append
theorem srcsI_app (a b : List (ItemJ × W8)) : srcsI (a ++ b) = srcsI a ++ srcsI b := List.filterMap_append
theorem ordK_nodup : ordK.Nodup := by decide
theorem lines_plain {j : JobD} (ok : JobOk j) (hm : mayJ j = true) : ∀ l ∈ linesJ j, plainL l ∧ l ≠ [] := fun l hl => by
  unfold linesJ ordLines at hl
  rcases List.mem_append.1 hl with h | h
  · obtain ⟨k, hk, rfl⟩ := List.mem_map.1 h; exact lineB_plain (okW_const k (by simp [hk])) (args_ok (may_inB ok hm).1 k)
  · obtain ⟨v, _, rfl⟩ := List.mem_map.1 h; exact lineB_plain (okW_const kSource (by simp)) (srcW_ok v)
theorem print_lines {j : JobD} (ok : JobOk j) (hm : mayJ j = true) (t : W8) : lines (printJ j ++ t) = linesJ j ++ lines t := lines_flat _ t (fun l hl => (lines_plain ok hm l hl).1)
/-- lines ks of a job, in their order, then its sources -/
theorem read_own {j : JobD} (ok : JobOk j) (hm : mayJ j = true) (ks : List W8) (hks : ∀ k ∈ ks, k ∈ ordK) (hn : ks.Nodup) (hall : ∀ k ∈ ordK, k ∈ ks) (rest : List W8) :
    ∃ met, (∀ k ∈ ordK, k ∈ met) ∧ readJGo beginJ [] 0 (ks.map (fun k => lineB k (argsJ j k)) ++ j.src.map srcLine ++ rest) = readJGo j met (ks.length + j.src.length) rest := by
  obtain ⟨k1, k2⟩ := keys_own j (fun k => lineB k (argsJ j k)) ks
  obtain ⟨s1, s2⟩ := keys_src srcLine j.src
  have hL : ((ks.map (fun k => (ItemJ.own k, lineB k (argsJ j k)))) ++ j.src.map (fun v => (ItemJ.src v, srcLine v))).map (·.2) = ks.map (fun k => lineB k (argsJ j k)) ++ j.src.map srcLine := by
    rw [List.map_append, List.map_map, List.map_map]; rfl
  have hk : keysI ((ks.map (fun k => (ItemJ.own k, lineB k (argsJ j k)))) ++ j.src.map (fun v => (ItemJ.src v, srcLine v))) = ks := by rw [keysI_app, k1, s1, List.append_nil]
  have hs : srcsI ((ks.map (fun k => (ItemJ.own k, lineB k (argsJ j k)))) ++ j.src.map (fun v => (ItemJ.src v, srcLine v))) = j.src := by rw [srcsI_app, k2, s2]; rfl
  have hg : ∀ i ∈ (ks.map (fun k => (ItemJ.own k, lineB k (argsJ j k)))) ++ j.src.map (fun v => (ItemJ.src v, srcLine v)), GoodI j i := fun i hi => by
    rcases List.mem_append.1 hi with h | h
    · obtain ⟨k, hk, rfl⟩ := List.mem_map.1 h; exact own_good (may_inB ok hm).1 (hks k hk)
    · obtain ⟨v, hv, rfl⟩ := List.mem_map.1 h; exact src_good ok hv
  have h := read_all ok hm hg (by rw [hk]; exact hn) hs rest
  rw [hL, fin_all hg (by rw [hk]; exact hall) hs] at h
  refine ⟨((ks.map (fun k => (ItemJ.own k, lineB k (argsJ j k)))) ++ j.src.map (fun v => (ItemJ.src v, srcLine v))).foldl (fun m i => metI m i.1) [], ?_, ?_⟩
  rotate_left
  · rw [h, List.length_append, List.length_map, List.length_map]
  have hmet : ∀ (l : List (ItemJ × W8)) (m : List W8) (k : W8), k ∈ m ∨ k ∈ keysI l → k ∈ l.foldl (fun m i => metI m i.1) m := by
    intro l
    induction l with
    | nil => intro m k h; exact h.elim id (fun h => by cases h)
    | cons i l ih =>
      intro m k h
      rw [List.foldl_cons]
      refine ih _ k ?_
      obtain ⟨it, s⟩ := i
      rcases h with h | h
      · left
        cases it <;> simp [metI, h]
      · cases it with
        | own k2 =>
          have : k = k2 ∨ k ∈ keysI l := List.mem_cons.1 h
          rcases this with rfl | h
          · left; simp [metI]
          · exact .inr h
        | src v => exact .inr h
        | skip => exact .inr h
  exact fun k hk2 => hmet _ _ k (.inr (by rw [hk]; exact hall k hk2))
/-! ### JobPrints, JobTwice -/
theorem read_print {j : JobD} (ok : JobOk j) (hm : mayJ j = true) : readJ (printJ j) = (j, 0, 0) := by
  have h1 := print_lines ok hm []
  rw [List.append_nil, lines_nil] at h1
  unfold readJ
  rw [h1]
  obtain ⟨met, _, h⟩ := read_own ok hm ordK (fun _ h => h) ordK_nodup (fun _ h => h) []
  unfold linesJ ordLines
  rw [h, readJGo, if_neg (may_inB ok hm).2.2.2.2.2]
theorem read_twice {j : JobD} (ok : JobOk j) (hm : mayJ j = true) {l : W8} (hl : l ∈ linesJ j) : readJ (printJ j ++ l) = (zeroJ, (linesJ j).length + 1, 13) := by
  obtain ⟨hp, hne⟩ := lines_plain ok hm l hl
  unfold readJ
  rw [print_lines ok hm, lines_last l hp, if_neg hne]
  obtain ⟨met, hmet, h⟩ := read_own ok hm ordK (fun _ h => h) ordK_nodup (fun _ h => h) [l]
  have hlen : (linesJ j).length = ordK.length + j.src.length := by unfold linesJ ordLines; simp
  rw [hlen]
  unfold linesJ ordLines at hl ⊢
  rw [h]
  rcases List.mem_append.1 hl with h | h
  · obtain ⟨k, hk, rfl⟩ := List.mem_map.1 h
    have hg := own_good (may_inB ok hm).1 hk
    obtain ⟨w1, w2, w3⟩ := wants_args j hk
    have hli : lineJ j met k (argsJ j k) = (j, 13) := by
      unfold lineJ
      rw [if_neg (fun e => e.elim w1 (fun e => e w2)), if_pos ⟨hmet k hk, w3⟩]
    rw [readJGo, hg.2]
    simp only
    rw [if_neg (head_plain (okW_const k (by simp [hk]))), hli, if_pos (by simp)]
  · obtain ⟨v, hv, rfl⟩ := List.mem_map.1 h
    have hg := src_good ok hv
    have hv2 := ok.src v hv
    have hd : num (digits v) 4294967295 = (v, 0) := by rw [num_digits, if_neg (by omega)]
    have hli : lineJ j met kSource [digits v] = (j, 13) := by
      unfold lineJ
      rw [wants_src, if_neg (by simp), if_neg (fun e => e.2 rfl), if_neg (by decide), if_neg (by decide), if_pos rfl]
      unfold sourceJ
      rw [show [digits v][0]! = digits v from rfl, hd, if_neg (by simp), if_pos hv]
    rw [readJGo, hg.2]
    simp only
    rw [if_neg (head_plain (okW_const kSource (by simp))), hli, if_pos (by simp)]
/-! ### JobOrder -/
def swapL {α : Type} [Inhabited α] (l : List α) (i k : Nat) : List α := (l.set i l[k]!).set k l[i]!
def swapB (i k : Nat) : Bool := decide (swapL ordK i k).Nodup && ordK.all (fun x => decide (x ∈ swapL ordK i k)) && (swapL ordK i k).all (fun x => decide (x ∈ ordK))
theorem swap_allB : (List.range 12).all (fun i => (List.range 12).all (fun k => swapB i k)) = true := by decide +kernel
theorem swap_ord {i : Nat} (hi : i < 12) {k : Nat} (hk : k < 12) : (swapL ordK i k).Nodup ∧ (∀ x ∈ ordK, x ∈ swapL ordK i k) ∧ (∀ x ∈ swapL ordK i k, x ∈ ordK) := by
  have h := List.all_eq_true.1 (List.all_eq_true.1 swap_allB i (List.mem_range.2 hi)) k (List.mem_range.2 hk)
  unfold swapB at h
  rw [Bool.and_eq_true, Bool.and_eq_true] at h
  exact ⟨of_decide_eq_true h.1.1, fun x hx => of_decide_eq_true (List.all_eq_true.1 h.1.2 x hx), fun x hx => of_decide_eq_true (List.all_eq_true.1 h.2 x hx)⟩
theorem swap_map {α β : Type} [Inhabited α] [Inhabited β] (f : α → β) (l : List α) {i k : Nat} (hi : i < l.length) (hk : k < l.length) : swapL (l.map f) i k = (swapL l i k).map f := by
  unfold swapL
  rw [getElem!_pos (l.map f) k (by simpa using hk), getElem!_pos (l.map f) i (by simpa using hi), getElem!_pos l k hk, getElem!_pos l i hi, List.map_set, List.map_set, List.getElem_map, List.getElem_map]
theorem swap_app {α : Type} [Inhabited α] (a b : List α) {i k : Nat} (hi : i < a.length) (hk : k < a.length) : swapL (a ++ b) i k = swapL a i k ++ b := by
  unfold swapL
  rw [getElem!_pos (a ++ b) k (by rw [List.length_append]; omega), getElem!_pos (a ++ b) i (by rw [List.length_append]; omega), List.getElem_append_left hk, List.getElem_append_left hi, getElem!_pos a k hk, getElem!_pos a i hi, List.set_append_left _ _ hi, List.set_append_left _ _ (by rw [List.length_set]; exact hk)]
theorem read_order {j : JobD} (ok : JobOk j) (hm : mayJ j = true) {i k : Nat} (hi : i < 12) (hk : k < 12) : readJ ((swapL (linesJ j) i k).flatMap (fun l => l ++ [10])) = (j, 0, 0) := by
  obtain ⟨h1, h2, h3⟩ := swap_ord hi hk
  have hsw : swapL (linesJ j) i k = (swapL ordK i k).map (fun k => lineB k (argsJ j k)) ++ j.src.map srcLine := by
    unfold linesJ ordLines
    rw [swap_app _ _ (by simpa [ordK] using hi) (by simpa [ordK] using hk), swap_map _ ordK (by simpa [ordK] using hi) (by simpa [ordK] using hk)]
  have hpl : ∀ l ∈ swapL (linesJ j) i k, plainL l := fun l hl => by
    rw [hsw] at hl
    rcases List.mem_append.1 hl with h | h
    · obtain ⟨x, hx, rfl⟩ := List.mem_map.1 h; exact (lineB_plain (okW_const x (by simp [h3 x hx])) (args_ok (may_inB ok hm).1 x)).1
    · obtain ⟨v, _, rfl⟩ := List.mem_map.1 h; exact (lineB_plain (okW_const kSource (by simp)) (srcW_ok v)).1
  have hl := lines_flat _ [] hpl
  rw [List.append_nil, lines_nil] at hl
  unfold readJ
  rw [hl, hsw]
  obtain ⟨met, _, h⟩ := read_own ok hm _ h3 h1 h2 []
  rw [h, readJGo, if_neg (may_inB ok hm).2.2.2.2.2]
end Go.Proofs.Ytmflopeedofkhaa
