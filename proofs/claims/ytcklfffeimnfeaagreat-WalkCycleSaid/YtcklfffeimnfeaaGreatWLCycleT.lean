/- A walk along a cycle. No program in sight. -/
import Derived.Test.YtcklfffeimnfeaaGreatBx22
namespace Go.Proofs.YtcklfffeimnfeaaGreat
set_option linter.unusedSimpArgs false
set_option linter.unusedVariables false
set_option maxRecDepth 100000

def cycE (n wg : Nat) (k : Nat) : List EdgeD := (List.range k).map (fun i => (i, (i + 1) % n, wg))
theorem cycE_succ (n wg k : Nat) : cycE n wg (k + 1) = cycE n wg k ++ [(k, (k + 1) % n, wg)] := by
  unfold cycE
  rw [List.range_succ, List.map_append]
  rfl
def cycR (n wg : Nat) : List RowD := (List.range n).map (fun i => (i, [((i + 1) % n, wg)]))
theorem cyc_rows {n wg : Nat} (hn : 0 < n) (hn2 : n ≤ 1000) (h1 : 1 ≤ wg) (h2 : wg ≤ 2147483647) : ofM (cycE n wg n) = (cycR n wg, 0) := by
  have hmod : ∀ i, (i + 1) % n < n := fun i => Nat.mod_lt _ hn
  have hR : okG (cycR n wg) := by
    refine ⟨⟨?_, fun r hr => ?_⟩, fun r hr => ?_⟩
    · unfold cycR
      rw [List.pairwise_map]
      exact List.pairwise_lt_range
    · obtain ⟨i, hi, rfl⟩ := List.mem_map.1 hr
      exact ⟨by simp, List.pairwise_singleton _ _, fun a ha => by rw [List.mem_singleton.1 ha]; exact h1⟩
    · obtain ⟨i, hi, rfl⟩ := List.mem_map.1 hr
      have hi := List.mem_range.1 hi
      have := hmod i
      refine ⟨by show i < 4294967296; omega, fun a ha => ?_, ?_⟩
      · rw [List.mem_singleton.1 ha]
        exact ⟨by show (i + 1) % n < 4294967296; omega, by show wg < 4294967296; omega⟩
      · simp [sumA]; exact h2
  have h := ofM_edges hR
  have e : edgesM (cycR n wg) = cycE n wg n := by
    unfold edgesM cycR cycE
    rw [List.flatMap_map, List.map_eq_flatMap]
    rfl
  rw [e] at h
  exact h
theorem cyc_arcs {n wg i : Nat} (hi : i < n) : arcs15M (cycR n wg) i = [((i + 1) % n, wg)] := by
  unfold arcs15M
  have : (cycR n wg).find? (fun r => r.1 == i) = some (i, [((i + 1) % n, wg)]) := by
    unfold cycR
    rw [List.find?_map]
    have h : (List.range n).find? ((fun r : RowD => r.1 == i) ∘ fun i => (i, [((i + 1) % n, wg)])) = some i := by
      rw [List.find?_eq_some_iff_getElem]
      refine ⟨by simp, i, by simpa using hi, by simp, fun k hk => by simp; omega⟩
    rw [h]
    rfl
  rw [this]
def cycP (s n k : Nat) : List Nat := (List.range k).map (fun i => (s + i) % n)
theorem cycP_len (s n k : Nat) : (cycP s n k).length = k := by simp [cycP]
theorem cycP_get {s n k i : Nat} (h : i < k) : (cycP s n k)[i]! = (s + i) % n := by
  rw [getElem!_pos (cycP s n k) i (by rw [cycP_len]; exact h)]
  simp [cycP]
theorem cycP_succ (s n k : Nat) : cycP s n (k + 1) = cycP s n k ++ [(s + k) % n] := by
  unfold cycP
  rw [List.range_succ, List.map_append]
  rfl
theorem cyc_next {n wg : Nat} (hn : 0 < n) (h1 : 1 ≤ wg) (h2 : wg ≤ 2147483647) {j : JobD} (hk : j.kind ≠ 1) (ht : 0 < j.tries) (id s k : Nat) :
    nextW (cycR n wg) j id (cycP s n (k + 1)) = some ((s + (k + 1)) % n) ∨ (nextW (cycR n wg) j id (cycP s n (k + 1)) = none ∧ j.kind = 2 ∧ 1 ≤ k) := by
  have hlast : (cycP s n (k + 1))[(cycP s n (k + 1)).length - 1]! = (s + k) % n := by rw [cycP_len, Nat.add_sub_cancel]; exact cycP_get (by omega)
  have ha : arcs15M (cycR n wg) ((s + k) % n) = [((s + (k + 1)) % n, wg)] := by
    rw [cyc_arcs (Nat.mod_lt _ hn), Nat.mod_add_mod, Nat.add_assoc]
  have hm : mayA [((s + (k + 1)) % n, wg)] = true := by
    refine decide_eq_true ⟨fun a h => by rw [List.mem_singleton.1 h]; exact h1, List.pairwise_singleton _ _, by simp [sumA]; exact h2⟩
  have hb : backW j id ((cycP s n (k + 1)).length - 1) = false := by unfold backW; rw [decide_eq_false hk, Bool.false_and]
  unfold nextW
  rw [hlast, ha, if_neg (by simp), hb]
  simp only [Bool.false_eq_true, if_false]
  have htry : ∀ t, tryW (near15M (cycR n wg)) [((s + (k + 1)) % n, wg)] j id (cycP s n (k + 1)) t = if takesW (near15M (cycR n wg)) j id (cycP s n (k + 1)) ((s + (k + 1)) % n) t then some ((s + (k + 1)) % n) else none := fun t => by
    unfold tryW
    rw [cand_one _ _ hm]
  have hall : ∀ m t, triesW (near15M (cycR n wg)) [((s + (k + 1)) % n, wg)] j id (cycP s n (k + 1)) m t = some ((s + (k + 1)) % n) ∨ triesW (near15M (cycR n wg)) [((s + (k + 1)) % n, wg)] j id (cycP s n (k + 1)) m t = none := fun m => by
    induction m with
    | zero => intro t; exact .inr rfl
    | succ m ih =>
      intro t
      by_cases h : takesW (near15M (cycR n wg)) j id (cycP s n (k + 1)) ((s + (k + 1)) % n) t = true
      · exact .inl (tries_some (by rw [htry, if_pos h]))
      · rw [tries_none (by rw [htry, if_neg h])]
        exact ih (t + 1)
  by_cases hfree : j.kind ≠ 2 ∨ k = 0
  · left
    obtain ⟨t, ht'⟩ : ∃ t, j.tries = t + 1 := ⟨j.tries - 1, by omega⟩
    rw [ht']
    refine tries_some ?_
    rw [htry, if_pos]
    unfold takesW
    rw [if_pos]
    rcases hfree with h | h
    · exact .inl h
    · right; rw [cycP_len, h]
  · rcases hall j.tries 0 with h | h
    · exact .inl h
    · exact .inr ⟨h, Decidable.of_not_not (fun e => hfree (.inl e)), by have : ¬ k = 0 := fun e => hfree (.inr e); omega⟩
theorem cyc_walk {n wg : Nat} (hn : 0 < n) (h1 : 1 ≤ wg) (h2 : wg ≤ 2147483647) {j : JobD} (hk : j.kind ≠ 1) (ht : 0 < j.tries) (id s : Nat) :
    ∀ (m k : Nat), ∃ q, q ≤ m ∧ walkW (cycR n wg) j id m (cycP s n (k + 1)) = cycP s n (k + 1 + q) ∧ (q = m ∨ (j.kind = 2 ∧ 1 ≤ k + q))
  | 0, k => ⟨0, Nat.le_refl _, rfl, .inl rfl⟩
  | m + 1, k => by
    rw [walkW]
    rcases cyc_next hn h1 h2 hk ht id s k with h | ⟨h, h3, h4⟩
    · rw [h]
      obtain ⟨q, e1, e2, e3⟩ := cyc_walk hn h1 h2 hk ht id s m (k + 1)
      refine ⟨q + 1, by omega, ?_, ?_⟩
      · simp only
        rw [← cycP_succ s n (k + 1), e2]
        congr 1
        omega
      · rcases e3 with e3 | ⟨e3, e4⟩
        · exact .inl (by omega)
        · exact .inr ⟨e3, by omega⟩
    · rw [h]
      exact ⟨0, Nat.zero_le _, rfl, .inr ⟨h3, by omega⟩⟩
/-- what the law asks -/
theorem cyc_path {n wg : Nat} (hn : 0 < n) (h1 : 1 ≤ wg) (h2 : wg ≤ 2147483647) {j : JobD} (hk : j.kind ≠ 1) {id : Nat} (hs : srcH j id = true) (hat : (newJ j id).at_ < n) :
    ∃ m, pathW (cycR n wg) j id = cycP (newJ j id).at_ n m ∧ m ≤ j.length + 1 ∧ (m = j.length + 1 ∨ (j.kind = 2 ∧ 2 ≤ m)) := by
  have hm := (srcH_walks (of_decide_eq_true hs)).1
  have ht := (mayJ_small hm).2.2.1
  obtain ⟨q, e1, e2, e3⟩ := cyc_walk (wg := wg) hn h1 h2 hk (by omega) id (newJ j id).at_ j.length 0
  refine ⟨0 + 1 + q, ?_, by omega, by omega⟩
  unfold pathW
  rw [hs, if_pos rfl, ← e2]
  congr 1
  rw [cycP_succ]
  simp [cycP, Nat.mod_eq_of_lt hat]
end Go.Proofs.YtcklfffeimnfeaaGreat
