/- Second order with p and q 1, restarts that never come, restarts that always come. No program in sight. -/
import Derived.Test.YtcklfffeimnfeaaGreatBx22
namespace Go.Proofs.YtcklfffeimnfeaaGreat
set_option linter.unusedSimpArgs false
set_option linter.unusedVariables false
set_option maxRecDepth 100000

def asJ (j : JobD) (kind stop : Nat) : JobD := { j with kind := kind, p := 1, q := 1, stop := stop }
theorem asJ_may {j : JobD} (hm : mayJ j = true) {kind stop : Nat} (hk : kind ≤ 2) (hs : stop ≤ j.od) : mayJ (asJ j kind stop) = true := by
  simp only [mayJ, walkB, secB, inB, Bool.and_eq_true, decide_eq_true_eq] at hm ⊢
  simp only [asJ]
  obtain ⟨⟨⟨h1, h2⟩, h3⟩, h4⟩ := hm
  exact ⟨⟨⟨by omega, by omega⟩, h3⟩, h4⟩
theorem asJ_ok {j : JobD} (hj : JobOk j) {kind stop : Nat} (hk : kind ≤ 2) (hs : stop ≤ j.od) : JobOk (asJ j kind stop) :=
  ⟨by show kind < 256; omega, hj.seed, hj.length, hj.walks, hj.src, by have := hj.od; show stop < 4294967296; omega, hj.od, by show 1 < 4294967296; omega, by show 1 < 4294967296; omega, hj.tries, hj.best, hj.bsh, hj.bro, hj.bpo, hj.bso⟩
def firstW (R : List RowD) (j : JobD) (id : Nat) (path : List Nat) : Option Nat := if arcs15M R path[path.length - 1]! = [] then none else some (candW (arcs15M R path[path.length - 1]!) j id (path.length - 1) 0)
theorem next_plain {R : List RowD} {j : JobD} (hm : mayJ j = true) {kind : Nat} (id : Nat) (path : List Nat) : nextW R (asJ j kind 0) id path = firstW R j id path := by
  have ht := (mayJ_small hm).2.2.1
  unfold nextW firstW
  split
  · rfl
  rw [show backW (asJ j kind 0) id (path.length - 1) = false by unfold backW; rw [show (asJ j kind 0).stop = 0 from rfl]; simp]
  obtain ⟨t, ht'⟩ : ∃ t, j.tries = t + 1 := ⟨j.tries - 1, by omega⟩
  rw [show (asJ j kind 0).tries = t + 1 from ht']
  refine tries_some ?_
  unfold tryW
  have hc : candW (arcs15M R path[path.length - 1]!) (asJ j kind 0) id (path.length - 1) 0 = candW (arcs15M R path[path.length - 1]!) j id (path.length - 1) 0 := rfl
  rw [hc]
  have hw : ∀ b n, weightN 1 1 b n = 1 := fun b n => by cases b <;> cases n <;> rfl
  have hk : ∀ tv, takesW (near15M R) (asJ j kind 0) id path tv 0 = true := fun tv => by
    unfold takesW
    split
    · rfl
    · have h := drwN_lt (asJ j kind 0) (wkAt id (path.length - 1)) (2 * 0) 1 (by omega)
      rw [show (asJ j kind 0).p = 1 from rfl, show (asJ j kind 0).q = 1 from rfl, hw]
      exact decide_eq_true h
  rw [hk]
  rfl
theorem walk_eq {R : List RowD} {j k : JobD} {id : Nat} (h : ∀ p, nextW R j id p = nextW R k id p) : ∀ (n : Nat) (p : List Nat), walkW R j id n p = walkW R k id n p
  | 0, p => rfl
  | n + 1, p => by
    rw [walkW, walkW, h]
    split
    · exact walk_eq h n _
    · rfl
theorem asJ_new {j : JobD} (hm : mayJ j = true) {kind stop : Nat} (hk : kind ≤ 2) (hs : stop ≤ j.od) (id : Nat) : newJ (asJ j kind stop) id = newJ j id ∧ srcH (asJ j kind stop) id = srcH j id :=
  ⟨(newJ_same hm (asJ_may hm hk hs) rfl rfl id).1, (newJ_same hm (asJ_may hm hk hs) rfl rfl id).2.1⟩
theorem plain_same {R : List RowD} {j : JobD} (hm : mayJ j = true) {k1 k2 : Nat} (h1 : k1 ≤ 2) (h2 : k2 ≤ 2) (id : Nat) : pathW R (asJ j k1 0) id = pathW R (asJ j k2 0) id := by
  obtain ⟨a1, a2⟩ := asJ_new hm h1 (Nat.zero_le _) id
  obtain ⟨b1, b2⟩ := asJ_new hm h2 (Nat.zero_le _) id
  unfold pathW
  rw [a1, a2, b1, b2, walk_eq (j := asJ j k1 0) (k := asJ j k2 0) (fun p => by rw [next_plain hm, next_plain hm])]
  rfl
theorem next_back {R : List RowD} {j : JobD} (hm : mayJ j = true) (id : Nat) (path : List Nat) : nextW R (asJ j 1 j.od) id path = if arcs15M R path[path.length - 1]! = [] then none else some path[0]! := by
  have ho := (mayJ_small hm).2.2.2.2.2.2.2.1
  unfold nextW
  split
  · rfl
  rw [show backW (asJ j 1 j.od) id (path.length - 1) = true by
    unfold backW
    have h := drwN_lt (asJ j 1 j.od) (wkAt id (path.length - 1)) 0 j.od (by omega)
    rw [show (asJ j 1 j.od).od = j.od from rfl, show (asJ j 1 j.od).stop = j.od from rfl, show (asJ j 1 j.od).kind = 1 from rfl]
    simp only [decide_true, Bool.true_and]
    exact decide_eq_true h]
  rfl
theorem rep_last (v m : Nat) : (List.replicate (m + 1) v)[(List.replicate (m + 1) v).length - 1]! = v ∧ (List.replicate (m + 1) v)[0]! = v := by
  constructor
  · rw [getElem!_pos _ _ (by simp)]; simp
  · rw [getElem!_pos _ _ (by simp)]; simp
theorem walk_stay {R : List RowD} {j : JobD} (hm : mayJ j = true) (id v : Nat) (ha : arcs15M R v ≠ []) : ∀ n m, walkW R (asJ j 1 j.od) id n (List.replicate (m + 1) v) = List.replicate (m + 1 + n) v
  | 0, m => rfl
  | n + 1, m => by
    obtain ⟨h1, h2⟩ := rep_last v m
    rw [walkW, next_back hm, h1, if_neg ha, h2]
    simp only
    rw [show List.replicate (m + 1) v ++ [v] = List.replicate (m + 1 + 1) v from List.replicate_succ'.symm, walk_stay hm id v ha n (m + 1)]
    congr 1
    omega
theorem always_path {R : List RowD} {j : JobD} (hm : mayJ j = true) {id : Nat} (hs : srcH j id = true) :
    ∃ m, pathW R (asJ j 1 j.od) id = List.replicate m (newJ j id).at_ ∧ (m = j.length + 1 ∨ (m = 1 ∧ arcs15M R (newJ j id).at_ = [])) := by
  obtain ⟨a1, a2⟩ := asJ_new hm (kind := 1) (stop := j.od) (by omega) (Nat.le_refl _) id
  unfold pathW
  rw [a1, a2, hs, if_pos rfl]
  by_cases ha : arcs15M R (newJ j id).at_ = []
  · refine ⟨1, ?_, .inr ⟨rfl, ha⟩⟩
    show walkW R (asJ j 1 j.od) id j.length [(newJ j id).at_] = _
    cases j.length with
    | zero => rfl
    | succ n =>
      rw [walkW, next_back hm]
      obtain ⟨h1, _⟩ := rep_last (newJ j id).at_ 0
      rw [show [(newJ j id).at_] = List.replicate (0 + 1) (newJ j id).at_ from rfl, h1, if_pos ha]
  · refine ⟨j.length + 1, ?_, .inl rfl⟩
    have h := walk_stay hm id (newJ j id).at_ ha j.length 0
    rw [show 0 + 1 + j.length = j.length + 1 by omega] at h
    exact h
end Go.Proofs.YtcklfffeimnfeaaGreat
