/- Texts merged into one: MergeCanon2, GraphPlain, WlkPlain, StepM, WlkMeth. -/
import Derived.Test.YtcklfffeimnfeaaGreatBx13
import Derived.Test.YtcklfffeimnfeaaGreatBx08
import Derived.Test.YtcklfffeimnfeaaGreatBx01
import Derived.Deep.RegionHeld
import Derived.StillTailTactics
import Derived.BigQuiet
set_option maxRecDepth 100000
set_option maxHeartbeats 12800000
set_option linter.unusedSimpArgs false
set_option linter.unusedVariables false
namespace Go.Proofs.YtcklfffeimnfeaaGreat
open Go.RowKit

theorem belowE_iff (x y : EdgeD) : belowE x y = true ↔ x.1 < y.1 ∨ (x.1 = y.1 ∧ (x.2.1 < y.2.1 ∨ (x.2.1 = y.2.1 ∧ x.2.2 < y.2.2))) := by
  unfold belowE
  split
  · split
    · rw [decide_eq_true_eq]; omega
    · rw [decide_eq_true_eq]; omega
  · rw [decide_eq_true_eq]; omega
theorem belowE_no (x y : EdgeD) : belowE x y = false ↔ ¬ (x.1 < y.1 ∨ (x.1 = y.1 ∧ (x.2.1 < y.2.1 ∨ (x.2.1 = y.2.1 ∧ x.2.2 < y.2.2)))) := by
  rw [← belowE_iff]; simp
def sortedE (s : List EdgeD) : Prop := s.Pairwise (fun a b => belowE b a = false)
theorem mem_tw {α : Type} (p : α → Bool) : ∀ (l : List α) (e : α), e ∈ l.takeWhile p → p e = true
  | [], e, h => by simp at h
  | x :: l, e, h => by
    by_cases hx : p x = true
    · rw [List.takeWhile_cons_of_pos hx] at h
      rcases List.mem_cons.1 h with e1 | h
      · rw [e1]; exact hx
      · exact mem_tw p l e h
    · rw [List.takeWhile_cons_of_neg hx] at h; simp at h
theorem head_dw {α : Type} (p : α → Bool) : ∀ (l : List α) (e : α) (b : List α), l.dropWhile p = e :: b → p e = false
  | [], e, b, h => by simp at h
  | x :: l, e, b, h => by
    by_cases hx : p x = true
    · rw [List.dropWhile_cons_of_pos hx] at h
      exact head_dw p l e b h
    · rw [List.dropWhile_cons_of_neg hx] at h
      simp only [List.cons.injEq] at h
      rw [← h.1]; simpa using hx
theorem insR_parts (x : EdgeD) (out : List EdgeD) (h : sortedE out) : ∃ a b, out = a ++ b ∧ insR x out = a ++ [x] ++ b ∧ (∀ e ∈ a, belowE x e = false) ∧ (∀ e ∈ b, belowE e x = false) := by
  refine ⟨_, _, (List.takeWhile_append_dropWhile (p := fun e => !belowE x e) (l := out)).symm, rfl, fun e he => ?_, fun e he => ?_⟩
  · have := mem_tw (fun e => !belowE x e) out e he
    simpa using this
  · have h1 : sortedE (out.takeWhile (fun e => !belowE x e) ++ out.dropWhile (fun e => !belowE x e)) := by rw [List.takeWhile_append_dropWhile]; exact h
    have h2 := (List.pairwise_append.1 h1).2.1
    cases hb : out.dropWhile (fun e => !belowE x e) with
    | nil => rw [hb] at he; simp at he
    | cons e0 b =>
      have h3 : (!belowE x e0) = false := head_dw (fun e => !belowE x e) out e0 b hb
      have h3 : belowE x e0 = true := by simpa using h3
      rw [hb] at h2 he
      rw [List.pairwise_cons] at h2
      rw [belowE_iff] at h3
      rw [belowE_no]
      rcases List.mem_cons.1 he with rfl | he
      · omega
      · have h4 := h2.1 e he
        rw [belowE_no] at h4
        omega
theorem insR_sorted (x : EdgeD) (out : List EdgeD) (h : sortedE out) : sortedE (insR x out) := by
  obtain ⟨a, b, ho, hi, h1, h2⟩ := insR_parts x out h
  rw [hi]
  rw [ho] at h
  obtain ⟨g1, g2, g3⟩ := List.pairwise_append.1 h
  unfold sortedE
  rw [List.append_assoc, List.pairwise_append]
  refine ⟨g1, ?_, fun e he f hf => ?_⟩
  · rw [List.singleton_append, List.pairwise_cons]
    exact ⟨h2, g2⟩
  · rw [List.singleton_append] at hf
    rcases List.mem_cons.1 hf with rfl | hf
    · exact h1 e he
    · exact g3 e he f hf
theorem insR_mem (x : EdgeD) (out : List EdgeD) (y : EdgeD) : y ∈ insR x out ↔ y = x ∨ y ∈ out := by
  have h : out = out.takeWhile (fun e => !belowE x e) ++ out.dropWhile (fun e => !belowE x e) := List.takeWhile_append_dropWhile.symm
  unfold insR
  conv => rhs; rw [h]
  simp only [List.mem_append, List.mem_singleton]
  constructor
  · rintro ((h | h) | h)
    · exact .inr (.inl h)
    · exact .inl h
    · exact .inr (.inr h)
  · rintro (h | h | h)
    · exact .inl (.inr h)
    · exact .inl (.inl h)
    · exact .inr h
theorem insR_wt (x : EdgeD) (out : List EdgeD) (f t : Nat) : wt (insR x out) f t = wt out f t + wt [x] f t := by
  have h : out = out.takeWhile (fun e => !belowE x e) ++ out.dropWhile (fun e => !belowE x e) := List.takeWhile_append_dropWhile.symm
  unfold insR
  conv => rhs; rw [h]
  rw [wt_append, wt_append, wt_append]; omega
theorem insR_outw (x : EdgeD) (out : List EdgeD) (f : Nat) : outw (insR x out) f = outw out f + outw [x] f := by
  have h : out = out.takeWhile (fun e => !belowE x e) ++ out.dropWhile (fun e => !belowE x e) := List.takeWhile_append_dropWhile.symm
  unfold insR
  conv => rhs; rw [h]
  rw [outw_append, outw_append, outw_append]; omega
theorem sortR_snoc (l : List EdgeD) (x : EdgeD) : sortR (l ++ [x]) = insR x (sortR l) := by unfold sortR; rw [List.foldl_append]; rfl
theorem sortR_all (l : List EdgeD) : sortedE (sortR l) ∧ (∀ y, y ∈ sortR l ↔ y ∈ l) ∧ (∀ f t, wt (sortR l) f t = wt l f t) ∧ (∀ f, outw (sortR l) f = outw l f) := by
  generalize hn : l.length = n
  induction n generalizing l with
  | zero =>
    obtain rfl := List.eq_nil_of_length_eq_zero hn
    exact ⟨.nil, fun y => Iff.rfl, fun _ _ => rfl, fun _ => rfl⟩
  | succ n ih =>
    rcases List.eq_nil_or_concat l with rfl | ⟨l', x, h⟩
    · simp at hn
    · rw [List.concat_eq_append] at h
      subst h
      obtain ⟨h1, h2, h3, h4⟩ := ih l' (by simpa using hn)
      rw [sortR_snoc]
      refine ⟨insR_sorted x _ h1, fun y => ?_, fun f t => ?_, fun f => ?_⟩
      · rw [insR_mem, h2]; simp [or_comm]
      · rw [insR_wt, h3, wt_append]
      · rw [insR_outw, h4, outw_append]
theorem keyE_key3 {x : EdgeD} (h : okE x) : keyE (key3 x.1 x.2.1 x.2.2) = x := by
  unfold keyE
  rw [if_pos (show (key3 x.1 x.2.1 x.2.2).length = 12 from rfl), keyOf_key3 _ _ _ h.1 h.2.1 h.2.2]
theorem keysM_cons (x : EdgeD) (q : List EdgeD) : keysM (x :: q) = key3 x.1 x.2.1 x.2.2 :: keysM q := rfl
theorem hasR_le {R : List RowD} {p : List EdgeD} (hs : CanS R p) (x : EdgeD) : hasR R x ≤ outw p x.1 := by
  rcases List.eq_nil_or_concat R with rfl | ⟨A, r, h⟩
  · simp [hasR]
  · rw [List.concat_eq_append] at h
    subst h
    rw [hasR_of]
    split
    · rename_i he; rw [(hs.sums r (by simp)).1, he]; exact Nat.le_refl _
    · omega
theorem rows_go : ∀ (q p : List EdgeD) (R : List RowD) (lastE : Option EdgeD) (rest : List (List UInt8)), CanS R p → (∀ x ∈ q, domR R x) → (∀ x ∈ q, isBelow lastE x = false) → (∀ x ∈ q, okE x ∧ x.2.2 ≠ 0) → sortedE q →
    (rrowsGo R lastE (keysM q ++ rest) = ([], 10) ∧ ∃ x ∈ q, 2147483647 < outw (p ++ q) x.1) ∨ ∃ R' e', rrowsGo R lastE (keysM q ++ rest) = rrowsGo R' e' rest ∧ CanS R' (p ++ q) ∧ (q = [] → e' = lastE) ∧ (∀ z, q.getLast? = some z → e' = some z)
  | [], p, R, lastE, rest, hs, _, _, _, _ => .inr ⟨R, lastE, rfl, by simpa using hs, fun _ => rfl, fun z h => by simp at h⟩
  | x :: q, p, R, lastE, rest, hs, hd, hb, hok, hso => by
    unfold sortedE at hso
    rw [List.pairwise_cons] at hso
    obtain ⟨hx, hw⟩ := hok x (by simp)
    have hk := keyE_key3 hx
    have e1 : rrowsGo R lastE (keysM (x :: q) ++ rest) = if 2147483647 < hasR R x + x.2.2 then ([], 10) else rrowsGo (withR R x) (some x) (keysM q ++ rest) := by
      rw [keysM_cons, List.cons_append]
      conv => lhs; unfold rrowsGo
      rw [hk, if_neg (by rintro (h | h); exact h rfl; exact hw h), hb x (by simp), if_neg (by simp)]
    rw [e1]
    by_cases h3 : 2147483647 < hasR R x + x.2.2
    · rw [if_pos h3]
      refine .inl ⟨rfl, x, by simp, ?_⟩
      have h4 := hasR_le hs x
      have h5 : outw (p ++ x :: q) x.1 = outw p x.1 + x.2.2 + outw q x.1 := by
        rw [outw_append, show x :: q = [x] ++ q from rfl, outw_append, outw_one, if_pos rfl]; omega
      omega
    · rw [if_neg h3]
      obtain ⟨h4, h5⟩ := hs.step (hd x (by simp)) hw (by omega)
      have ih := rows_go q (p ++ [x]) (withR R x) (some x) rest h4 (fun y hy => h5.mono (leE_of (hso.1 y hy))) (fun y hy => hso.1 y hy) (fun y hy => hok y (by simp [hy])) hso.2
      rw [List.append_assoc, List.singleton_append] at ih
      rcases ih with ⟨h6, y, hy, h7⟩ | ⟨R', e', h6, h7, h8, h9⟩
      · exact .inl ⟨h6, y, by simp [hy], h7⟩
      · refine .inr ⟨R', e', h6, h7, by simp, fun z hz => ?_⟩
        cases q with
        | nil => simp at hz; rw [h8 rfl, hz]
        | cons y q => rw [List.getLast?_cons_cons] at hz; exact h9 z hz
/-- of edges with weights: the rows, or a vertex has too much -/
theorem rows_edges (l : List EdgeD) (hok : ∀ x ∈ l, okE x ∧ x.2.2 ≠ 0) :
    ((∃ x ∈ l, 2147483647 < outw l x.1) ∧ rowsOf (keysM (sortR l)) = ([], 10)) ∨
    ((∀ x ∈ l, outw l x.1 ≤ 2147483647) ∧ ∃ R, rowsOf (keysM (sortR l)) = (R, 0) ∧ canonR R ∧ reprR R (wt l) ∧ ∀ r ∈ R, sumA r.2 ≤ 2147483647) := by
  obtain ⟨h1, h2, h3, h4⟩ := sortR_all l
  have hg := rows_go (sortR l) [] [] none [] CanS.nil (fun x _ r hr => by simp at hr) (fun x _ => rfl) (fun x hx => hok x ((h2 x).1 hx)) h1
  simp only [List.append_nil, List.nil_append] at hg
  rw [← rrows_rows]
  unfold rrows
  rcases hg with ⟨h5, x, hx, h6⟩ | ⟨R, e', h5, h6, _, _⟩
  · exact .inl ⟨⟨x, (h2 x).1 hx, by rw [← h4]; exact h6⟩, h5⟩
  · refine .inr ⟨fun x hx => ?_, R, by rw [h5]; rfl, h6.can, fun f t v => by rw [h6.rep f t v, h3], fun r hr => (h6.sums r hr).2⟩
    obtain ⟨r, hr, he⟩ := h6.all x ((h2 x).2 hx)
    have := h6.sums r hr
    rw [← h4, ← he, ← this.1]; exact this.2
end Go.Proofs.YtcklfffeimnfeaaGreat

namespace Go.Proofs.YtcklfffeimnfeaaGreat
open Go.RowKit

theorem zeroW_no {l : List EdgeD} (h : zeroW l = false) : ∀ x ∈ l, x.2.2 ≠ 0 := fun x hx e => by
  have : zeroW l = true := by unfold zeroW; rw [List.any_eq_true]; exact ⟨x, hx, by simp [e]⟩
  rw [h] at this; cases this
theorem ofM_cases (l : List EdgeD) (hok : ∀ x ∈ l, okE x) :
    (zeroW l = true ∧ ofM l = ([], 9)) ∨ (zeroW l = false ∧ (∃ x ∈ l, 2147483647 < outw l x.1) ∧ ofM l = ([], 10)) ∨
    (zeroW l = false ∧ (∀ x ∈ l, outw l x.1 ≤ 2147483647) ∧ ∃ R, ofM l = (R, 0) ∧ canonR R ∧ reprR R (wt l) ∧ ∀ r ∈ R, sumA r.2 ≤ 2147483647) := by
  cases hz : zeroW l with
  | true => exact .inl ⟨rfl, by unfold ofM; rw [if_pos hz]⟩
  | false =>
    have h := rows_edges l (fun x hx => ⟨hok x hx, zeroW_no hz x hx⟩)
    have e : ofM l = rowsOf (keysM (sortR l)) := by unfold ofM; rw [if_neg (by rw [hz]; simp), rrows_rows]
    rw [e]
    rcases h with ⟨h1, h2⟩ | ⟨h1, h2⟩
    · exact .inr (.inl ⟨rfl, h1, h2⟩)
    · exact .inr (.inr ⟨rfl, h1, h2⟩)
/-! ### a graph's edges -/
def edgesM (R : List RowD) : List EdgeD := R.flatMap (fun r => r.2.map (fun a => (r.1, a.1, a.2)))
def wta (l : List ArcD) (t : Nat) : Nat := (l.map (fun a => if a.1 = t then a.2 else 0)).sum
theorem edgesM_mem {R : List RowD} {x : EdgeD} : x ∈ edgesM R ↔ ∃ r ∈ R, r.1 = x.1 ∧ (x.2.1, x.2.2) ∈ r.2 := by
  unfold edgesM
  rw [List.mem_flatMap]
  constructor
  · rintro ⟨r, hr, h⟩
    obtain ⟨a, ha, rfl⟩ := List.mem_map.1 h
    exact ⟨r, hr, rfl, ha⟩
  · rintro ⟨r, hr, h1, h2⟩
    exact ⟨r, hr, List.mem_map.2 ⟨_, h2, by rw [h1]⟩⟩
/-- rows as a graph has them -/
def okG (R : List RowD) : Prop := canonR R ∧ ∀ r ∈ R, r.1 < 4294967296 ∧ (∀ a ∈ r.2, okA a) ∧ sumA r.2 ≤ 2147483647
theorem okG.edges {R : List RowD} (h : okG R) : ∀ x ∈ edgesM R, okE x := fun x hx => by
  obtain ⟨r, hr, h1, h2⟩ := edgesM_mem.1 hx
  obtain ⟨h3, h4, _⟩ := h.2 r hr
  exact ⟨by rw [← h1]; exact h3, (h4 _ h2).1, (h4 _ h2).2⟩
theorem ofM_okG {l : List EdgeD} (hok : ∀ x ∈ l, okE x) {R : List RowD} (h : ofM l = (R, 0)) : okG R := by
  rcases ofM_cases l hok with ⟨_, h2⟩ | ⟨_, _, h2⟩ | ⟨_, hb, S, h2, h3, h4, h5⟩
  · rw [h2] at h; cases h
  · rw [h2] at h; cases h
  · rw [h2] at h
    cases h
    refine ⟨h3, fun r hr => ?_⟩
    have hm : ∀ a ∈ r.2, ∃ x ∈ l, x.1 = r.1 ∧ x.2.1 = a.1 := fun a ha => by
      have := (h4 r.1 a.1 a.2).1 ⟨r, hr, rfl, ha⟩
      exact wt_mem (by omega)
    have hs := h5 r hr
    have hle : ∀ a ∈ r.2, a.2 ≤ sumA r.2 := fun a ha => by
      unfold sumA
      generalize r.2 = q at ha
      induction q with
      | nil => cases ha
      | cons b q ih =>
        rw [List.map_cons, List.sum_cons]
        rcases List.mem_cons.1 ha with rfl | ha
        · omega
        · have := ih ha; omega
    refine ⟨?_, fun a ha => ?_, hs⟩
    · obtain ⟨hne, _, _⟩ := h3.2 r hr
      obtain ⟨a, ha⟩ := List.exists_mem_of_ne_nil _ hne
      obtain ⟨x, hx, h1, _⟩ := hm a ha
      rw [← h1]; exact (hok x hx).1
    · obtain ⟨x, hx, _, h1⟩ := hm a ha
      have := hle a ha
      exact ⟨by rw [← h1]; exact (hok x hx).2.1, by omega⟩
theorem okG.may {R : List RowD} (h : okG R) : ∀ r ∈ R, mayA r.2 = true ∧ r.2 ≠ [] := fun r hr =>
  ⟨decide_eq_true ⟨(h.1.2 r hr).2.2, (h.1.2 r hr).2.1, (h.2 r hr).2.2⟩, (h.1.2 r hr).1⟩

/-! ### New -/
/-- the error's number of the row k -/
def newErr (R : List RowD) (k : Nat) : Nat :=
  if h : k < R.length then (if R[k].2 = [] ∨ mayA R[k].2 = false then 3 else if h0 : 0 < k then (if R[k].1 ≤ (R[k - 1]'(by omega)).1 then 13 else 0) else 0) else 0
def newGo (R : List RowD) (k : Nat) : Nat → Nat
  | 0 => 0
  | n + 1 => if newErr R k ≠ 0 then newErr R k else newGo R (k + 1) n
def newM15 (R : List RowD) : Nat := newGo R 0 R.length
/-! ### vertices -/
def withV (l : List Nat) (v : Nat) : List Nat := l.filter (fun x => x < v) ++ [v] ++ l.filter (fun x => v < x)
def vertM (R : List RowD) : List Nat := (edgesM R).foldl (fun out x => withV (withV out x.1) x.2.1) []
/-- the numbers that a graph's vertices are collected from -/
def rawV (R : List RowD) : List Nat := R.flatMap (fun r => r.1 :: r.2.map (·.1))
/-! ### near -/
def near15M (R : List RowD) (v tv : Nat) : Bool := nearM (arcs15M R v) tv
end Go.Proofs.YtcklfffeimnfeaaGreat

namespace Go.Proofs.YtcklfffeimnfeaaGreat

def wkAt (id s : Nat) : WkD := ⟨id, s, 0, 0, 0, 0, 0⟩
/-- a draw of a try -/
def drawW (j : JobD) (id s att n : Nat) : Nat := drwN j (wkAt id s) att n
/-- a try's neighbour -/
def candW (l : List ArcD) (j : JobD) (id s t : Nat) : Nat := (l[toT (buildT (l.map (·.2))) (sumA l) (drawW j id s (2 * t + 1) (totalM l))]!).1
def backW (j : JobD) (id s : Nat) : Bool := decide (j.kind = 1) && decide (drawW j id s 0 j.od < j.stop)
def takesW (near : Nat → Nat → Bool) (j : JobD) (id : Nat) (path : List Nat) (tv t : Nat) : Bool :=
  if j.kind ≠ 2 ∨ path.length = 1 then true
  else decide (drawW j id (path.length - 1) (2 * t) (j.p * j.q) < weightN j.p j.q (tv == path[path.length - 2]!) (near path[path.length - 2]! tv))
def tryW (near : Nat → Nat → Bool) (l : List ArcD) (j : JobD) (id : Nat) (path : List Nat) (t : Nat) : Option Nat :=
  if takesW near j id path (candW l j id (path.length - 1) t) t then some (candW l j id (path.length - 1) t) else none
def triesW (near : Nat → Nat → Bool) (l : List ArcD) (j : JobD) (id : Nat) (path : List Nat) : Nat → Nat → Option Nat
  | 0, _ => none
  | n + 1, t => match tryW near l j id path t with
    | some v => some v
    | none => triesW near l j id path n (t + 1)
/-- a walk's next vertex -/
def nextW (R : List RowD) (j : JobD) (id : Nat) (path : List Nat) : Option Nat :=
  if arcs15M R path[path.length - 1]! = [] then none
  else if backW j id (path.length - 1) then some path[0]!
  else triesW (near15M R) (arcs15M R path[path.length - 1]!) j id path j.tries 0
def walkW (R : List RowD) (j : JobD) (id : Nat) : Nat → List Nat → List Nat
  | 0, p => p
  | n + 1, p => match nextW R j id p with
    | some v => walkW R j id n (p ++ [v])
    | none => p
def pathW (R : List RowD) (j : JobD) (id : Nat) : List Nat := if srcH j id then walkW R j id j.length [(newJ j id).at_] else []
theorem sumA_mem : ∀ {l : List ArcD} {a : ArcD}, a ∈ l → a.2 ≤ sumA l
  | [], _, h => by cases h
  | b :: l, a, h => by
    unfold sumA
    rw [List.map_cons, List.sum_cons]
    rcases List.mem_cons.1 h with rfl | h
    · omega
    · have := sumA_mem h
      unfold sumA at this
      omega
theorem totalM_pos {l : List ArcD} (hm : mayA l = true) (hne : l ≠ []) : totalM l = sumA l * l.length ∧ 0 < sumA l ∧ 0 < l.length := by
  have h1 := of_decide_eq_true hm
  have hl : 0 < l.length := List.length_pos_iff.2 hne
  have h0 := h1.1 l[0] (List.getElem_mem hl)
  have h2 := sumA_mem (List.getElem_mem hl)
  exact ⟨by unfold totalM; rw [if_pos hm], by omega, hl⟩
theorem cand_lt {l : List ArcD} (hm : mayA l = true) (hne : l ≠ []) (j : JobD) (id s t : Nat) : toT (buildT (l.map (·.2))) (sumA l) (drawW j id s (2 * t + 1) (totalM l)) < l.length := by
  obtain ⟨htot, hsum, hl⟩ := totalM_pos hm hne
  have hx := drwN_lt j (wkAt id s) (2 * t + 1) (totalM l) (by rw [htot]; exact Nat.mul_pos hsum hl)
  have hT : RightT (l.map (·.2)) (buildT (l.map (·.2))) := buildT_right _
  have hxw : drawW j id s (2 * t + 1) (totalM l) < (l.map (·.2)).length * (l.map (·.2)).sum := by
    have h : (l.map (·.2)).length * (l.map (·.2)).sum = totalM l := by rw [htot, List.length_map, Nat.mul_comm]; rfl
    rw [h]; exact hx
  have h := toT_lt hT hxw
  rw [List.length_map] at h
  exact h
theorem tries_none {near : Nat → Nat → Bool} {l : List ArcD} {j : JobD} {id : Nat} {path : List Nat} {n t : Nat} (h : tryW near l j id path t = none) : triesW near l j id path (n + 1) t = triesW near l j id path n (t + 1) := by
  rw [triesW, h]
theorem tries_some {near : Nat → Nat → Bool} {l : List ArcD} {j : JobD} {id : Nat} {path : List Nat} {n t v : Nat} (h : tryW near l j id path t = some v) : triesW near l j id path (n + 1) t = some v := by
  rw [triesW, h]
theorem walk_pre (R : List RowD) (j : JobD) (id : Nat) : ∀ (n : Nat) (p : List Nat), p <+: walkW R j id n p ∧ (walkW R j id n p).length ≤ p.length + n
  | 0, p => ⟨List.prefix_refl _, Nat.le_refl _⟩
  | n + 1, p => by
    rw [walkW]
    split
    · rename_i v h
      obtain ⟨h1, h2⟩ := walk_pre R j id n (p ++ [v])
      refine ⟨(List.prefix_append p [v]).trans h1, ?_⟩
      rw [List.length_append, List.length_singleton] at h2
      omega
    · exact ⟨List.prefix_refl _, by omega⟩
end Go.Proofs.YtcklfffeimnfeaaGreat

namespace Go.Proofs.YtcklfffeimnfeaaGreat
open Go.RowKit

section
variable {P : Program} {ops : Array Oper} {S : World → Prop} {Q : Exit → Act → World → Prop}
theorem wpOp_runW {i : Nat} {o : Oper} {K : Act → World → Prop} {a : Act} {w : World} (ho : ops[i]? = some o) (hw : Region.wanted o (yielded ops a.tmps) = true)
    (h : ∀ K' : Act → World → Prop, (∀ a w, K a w → K' a w) → o.wp P a w K' Q) : wpOp P ops Q i K a w := by
  unfold wpOp
  rw [ho]
  simp only [hw, if_true]
  exact Or.inl (h K fun _ _ h => h)
end
/-! ### bias -/
theorem scale_any (p q : Nat) (hp : p < 4294967296) (hq : q < 4294967296) (w : World) : Calls Tryz.prog 89 #[.int .u32 (p : Nat), .int .u32 (q : Nat)] w fun e w' => e = .returned (.int .u64 ((p * q : Nat) : Nat)) ∧ w' = w := by
  have h : p * q ≤ 4294967295 * 4294967295 := Nat.mul_le_mul (by omega) (by omega)
  have hm : IntKind.u64.wrap ((p : Int) * (q : Int)) = ((p * q : Nat) : Int) := by
    rw [show (p : Int) * (q : Int) = ((p * q : Nat) : Int) from by simp]
    exact IntWalk.u64_in _ (by omega)
  have Hm := Lib.hid hm
  clear h hm
  go_enter Tryz.func89, Tryz.ntmps89
  go_wp2_with fail
  go_ret
  refine ⟨?_, rfl⟩
  have := Hm.out
  first
    | (rw [this]; done)
    | (refine congrArg (fun n => Ending.returned (Value.int .u64 n)) ?_; simpa [IntKind.wrap, IntKind.bits, IntKind.signed] using this)
theorem weight_any (p q : Nat) (hp : p < 4294967296) (hq : q < 4294967296) (back near : Bool) (w : World) : Calls Tryz.prog 129 #[.int .u32 (p : Nat), .int .u32 (q : Nat), .bool back, .bool near] w fun e w' => e = .returned (.int .u64 (weightN p q back near : Nat)) ∧ w' = w := by
  have HS := Lib.hid (fun W => scale_any p q hp hq W)
  cases back
  · cases near
    · show Calls _ _ _ _ fun e w' => e = .returned (.int .u64 (p : Nat)) ∧ w' = w
      clear HS
      go_enter Tryz.func129, Tryz.ntmps129
      go_wp2_with fail
      go_ret
      exact ⟨rfl, rfl⟩
    · show Calls _ _ _ _ fun e w' => e = .returned (.int .u64 ((p * q : Nat) : Nat)) ∧ w' = w
      generalize p * q = m at *
      go_enter Tryz.func129, Tryz.ntmps129
      go_wp2_with (go_at_call 89; refine (HS.out _).mono ?_; rintro e w1 ⟨rfl, rfl⟩)
      go_ret
      exact ⟨rfl, rfl⟩
  · show Calls _ _ _ _ fun e w' => e = .returned (.int .u64 (q : Nat)) ∧ w' = w
    clear HS
    go_enter Tryz.func129, Tryz.ntmps129
    go_wp2_with fail
    go_ret
    exact ⟨rfl, rfl⟩
theorem baccepts_any (p q : Nat) (hp : p < 4294967296) (hq : q < 4294967296) (back near : Bool) (u : Nat) (w : World) : Calls Tryz.prog 87 #[.int .u32 (p : Nat), .int .u32 (q : Nat), .bool back, .bool near, .int .u64 (u : Nat)] w fun e w' => e = .returned (.bool (decide (u < weightN p q back near))) ∧ w' = w := by
  have HW := Lib.hid (fun W => weight_any p q hp hq back near W)
  generalize weightN p q back near = m at *
  go_enter Tryz.func87, Tryz.ntmps87
  go_wp2_with (go_at_call 129; refine (HW.out _).mono ?_; rintro e w1 ⟨rfl, rfl⟩)
  go_ret
  exact ⟨by simp, rfl⟩
/-! ### a mover -/
def mvCs (x : WkD) (j : JobD) (ao : Option Addr) (cap : Nat) : Array Value :=
  #[.int .u32 (x.id : Nat), .int .u32 (x.step : Nat), .int .u32 (x.at_ : Nat), .int .u32 (x.prev : Nat), .int .u32 (x.next : Nat), .int .u32 (x.try_ : Nat), .int .u32 (x.state : Nat),
    .int .u8 (j.kind : Nat), .int .u64 (j.seed : Nat), .int .u32 (j.length : Nat), .int .u32 (j.walks : Nat), .slice ao j.src.length cap, .int .u32 (j.stop : Nat), .int .u32 (j.od : Nat), .int .u32 (j.p : Nat), .int .u32 (j.q : Nat),
    .int .u32 (j.tries : Nat), .int .u32 (j.best : Nat), .int .u32 (j.bsh : Nat), .int .u32 (j.bro : Nat), .int .u32 (j.bpo : Nat), .int .u32 (j.bso : Nat)]
/-- the mover's cells that are read -/
structure MvS (g : Nat) (x : WkD) (j : JobD) (w : World) : Prop where
  c0 : w.cell? ⟨g, 0, none⟩ = some (.int .u32 (x.id : Nat))
  c1 : w.cell? ⟨g, 1, none⟩ = some (.int .u32 (x.step : Nat))
  c2 : w.cell? ⟨g, 2, none⟩ = some (.int .u32 (x.at_ : Nat))
  c3 : w.cell? ⟨g, 3, none⟩ = some (.int .u32 (x.prev : Nat))
  c4 : w.cell? ⟨g, 4, none⟩ = some (.int .u32 (x.next : Nat))
  c5 : w.cell? ⟨g, 5, none⟩ = some (.int .u32 (x.try_ : Nat))
  c6 : w.cell? ⟨g, 6, none⟩ = some (.int .u32 (x.state : Nat))
  c7 : w.cell? ⟨g, 7, none⟩ = some (.int .u8 (j.kind : Nat))
  c8 : w.cell? ⟨g, 8, none⟩ = some (.int .u64 (j.seed : Nat))
  c12 : w.cell? ⟨g, 12, none⟩ = some (.int .u32 (j.stop : Nat))
  c13 : w.cell? ⟨g, 13, none⟩ = some (.int .u32 (j.od : Nat))
  c14 : w.cell? ⟨g, 14, none⟩ = some (.int .u32 (j.p : Nat))
  c15 : w.cell? ⟨g, 15, none⟩ = some (.int .u32 (j.q : Nat))
  c16 : w.cell? ⟨g, 16, none⟩ = some (.int .u32 (j.tries : Nat))
  fr : ∀ i, w.frozen? ⟨g, i, none⟩ = false
theorem MvS.of {g : Nat} {x : WkD} {j : JobD} {ao : Option Addr} {cap : Nat} {t : TypeId} {w : World} (h : w.heap[g]? = some (.cells (mvCs x j ao cap) t (0, 0))) : MvS g x j w := by
  have hc := fun i => cell_of_row w g i (mvCs x j ao cap) t (0, 0) h
  exact ⟨hc 0, hc 1, hc 2, hc 3, hc 4, hc 5, hc 6, hc 7, hc 8, hc 12, hc 13, hc 14, hc 15, hc 16, fun i => frozen_of_row w g i _ t h⟩
theorem MvS.keep {g : Nat} {x : WkD} {j : JobD} {w w' : World} (h : MvS g x j w) (hk : w'.heap[g]? = w.heap[g]?) : MvS g x j w' := by
  have k := fun i => World.cell?_of_block (w := w) (w' := w') (a := ⟨g, i, none⟩) hk
  have f := fun i => World.frozen?_of_block (w := w) (w' := w') (a := ⟨g, i, none⟩) hk
  exact ⟨(k 0).trans h.c0, (k 1).trans h.c1, (k 2).trans h.c2, (k 3).trans h.c3, (k 4).trans h.c4, (k 5).trans h.c5, (k 6).trans h.c6, (k 7).trans h.c7, (k 8).trans h.c8, (k 12).trans h.c12, (k 13).trans h.c13, (k 14).trans h.c14, (k 15).trans h.c15, (k 16).trans h.c16, fun i => (f i).trans (h.fr i)⟩
theorem MvS.lt {g : Nat} {x : WkD} {j : JobD} {w : World} (h : MvS g x j w) : g < w.heap.size := block_lt_of_cell h.c0
theorem MvS.ext {g : Nat} {x : WkD} {j : JobD} {w w' : World} (h : MvS g x j w) (hB : Below w.heap.size w w') : MvS g x j w' := h.keep (hB.block g h.lt)

theorem below_nat (s k t a n : Nat) (hn : n < 18446744073709551616) (w : World) :
    Calls Tryz.prog 51 #[.agg #[.int .u64 (s : Nat), .int .u64 (k : Nat), .int .u64 (t : Nat), .int .u64 (a : Nat)], .int .u64 (n : Nat)] w (RetB (.int .u64 ((belowZ (drawZ s k t a) n).toNat : Nat)) w) := by
  have h := below_any s k t a n w (by omega) (by omega)
  have h0 : 0 ≤ belowZ (drawZ s k t a) n := by
    rcases Nat.eq_zero_or_pos n with h0 | h0
    · subst h0; unfold belowZ; simp
    · exact (belowZ_lt _ _ (by omega)).1
  rw [← Int.toNat_of_nonneg h0] at h
  exact h
def RstS (g kind stop od : Nat) (w : World) : Prop := w.cell? ⟨g, 7, none⟩ = some (.int .u8 (kind : Nat)) ∧ w.cell? ⟨g, 12, none⟩ = some (.int .u32 (stop : Nat)) ∧ w.cell? ⟨g, 13, none⟩ = some (.int .u32 (od : Nat))
end Go.Proofs.YtcklfffeimnfeaaGreat

namespace Go.Proofs.YtcklfffeimnfeaaGreat
open Go.RowKit

/-- the walk's cells that are read -/
structure WlS (g : Nat) (gp : Value) (j : JobD) (id : Nat) (ao : Option Addr) (cap : Nat) (go : Option Nat) (path : List Nat) (w : World) : Prop where
  c0 : w.cell? ⟨g, 0, none⟩ = some gp
  c1 : w.cell? ⟨g, 1, none⟩ = some (.int .u8 (j.kind : Nat))
  c2 : w.cell? ⟨g, 2, none⟩ = some (.int .u64 (j.seed : Nat))
  c3 : w.cell? ⟨g, 3, none⟩ = some (.int .u32 (j.length : Nat))
  c6 : w.cell? ⟨g, 6, none⟩ = some (.int .u32 (j.stop : Nat))
  c7 : w.cell? ⟨g, 7, none⟩ = some (.int .u32 (j.od : Nat))
  c8 : w.cell? ⟨g, 8, none⟩ = some (.int .u32 (j.p : Nat))
  c9 : w.cell? ⟨g, 9, none⟩ = some (.int .u32 (j.q : Nat))
  c10 : w.cell? ⟨g, 10, none⟩ = some (.int .u32 (j.tries : Nat))
  c16 : w.cell? ⟨g, 16, none⟩ = some (.int .u32 (id : Nat))
  c17 : w.cell? ⟨g, 17, none⟩ = some (.slice ao path.length cap)
  fr : ∀ i, w.frozen? ⟨g, i, none⟩ = false
  own : Own w ao cap go 24 1 path.length (u32s path)
  ne : go ≠ some g
  pos : 0 < path.length
  small : path.length ≤ 100000
section
variable {g : Nat} {gp : Value} {j : JobD} {id : Nat} {ao : Option Addr} {cap : Nat} {go : Option Nat} {path : List Nat} {w w' : World}
theorem WlS.lt (h : WlS g gp j id ao cap go path w) : g < w.heap.size := block_lt_of_cell h.c0
theorem WlS.keep (h : WlS g gp j id ao cap go path w) (hk : w'.heap[g]? = w.heap[g]?) (hk2 : ∀ b, go = some b → w'.heap[b]? = w.heap[b]?) : WlS g gp j id ao cap go path w' := by
  have k := fun i => World.cell?_of_block (w := w) (w' := w') (a := ⟨g, i, none⟩) hk
  have f := fun i => World.frozen?_of_block (w := w) (w' := w') (a := ⟨g, i, none⟩) hk
  exact ⟨(k 0).trans h.c0, (k 1).trans h.c1, (k 2).trans h.c2, (k 3).trans h.c3, (k 6).trans h.c6, (k 7).trans h.c7, (k 8).trans h.c8, (k 9).trans h.c9, (k 10).trans h.c10, (k 16).trans h.c16, (k 17).trans h.c17, fun i => (f i).trans (h.fr i), h.own.keep hk2, h.ne, h.pos, h.small⟩
theorem WlS.ext (h : WlS g gp j id ao cap go path w) (hB : Below w.heap.size w w') : WlS g gp j id ao cap go path w' :=
  h.keep (hB.block g h.lt) (fun b hb => hB.block b (h.own.lt b hb))
theorem WlS.get (h : WlS g gp j id ao cap go path w) {k : Nat} (hk : k < path.length) : ∃ b, ao = some ⟨b, 0, none⟩ ∧ go = some b ∧ b < w.heap.size ∧ w.cell? ⟨b, k, none⟩ = some (.int .u32 (path[k]! : Nat)) := by
  obtain ⟨b, h1, rfl, h3⟩ := h.own.pos h.pos
  refine ⟨b, rfl, h1, h3, ?_⟩
  rw [h.own.cell k (by omega), getElem!_pos path k hk]
  simp [u32s, hk]
end
theorem wat_any {g : Nat} {gp : Value} {j : JobD} {id : Nat} {ao : Option Addr} {cap : Nat} {go : Option Nat} {path : List Nat} {w : World} (h : WlS g gp j id ao cap go path w) (k : Nat) (hk : k < path.length) :
    Calls Tryz.prog 67 #[.pointer (some ⟨g, 0, none⟩), .int .i64 (k : Nat)] w (RetB (.int .u32 (path[path.length - 1 - k]! : Nat)) w) := by
  obtain ⟨b, rfl, _, hb, hc⟩ := h.get (k := path.length - 1 - k) (by omega)
  have c17 := h.c17
  have hsm := h.small
  have hgl := h.lt
  obtain ⟨v, hv⟩ : ∃ v, path[path.length - 1 - k]! = v := ⟨_, rfl⟩
  rw [hv] at hc ⊢
  clear hv h
  obtain ⟨n, hn⟩ : ∃ n, path.length = n := ⟨_, rfl⟩
  rw [hn] at c17 hc hk hsm
  clear hn
  have i0 : (0 : Int) ≤ (n : Int) - 1 - (k : Int) := by omega
  have i1 : (n : Int) - 1 - (k : Int) < (n : Int) := by omega
  have hc' : w.cell? ⟨b, ((n : Int) - 1 - (k : Int)).toNat, none⟩ = some (.int .u32 (v : Nat)) := by
    rw [show ((n : Int) - 1 - (k : Int)).toNat = n - 1 - k by omega]; exact hc
  go_enter Tryz.func67, Tryz.ntmps67
  go_wp2_with fail
  go_quiet (fail)
  go_wp2_with fail
  go_ret
  exact ⟨rfl, ext_drewN w _⟩
theorem wdraw_any {g : Nat} {gp : Value} {j : JobD} {id : Nat} {ao : Option Addr} {cap : Nat} {go : Option Nat} {path : List Nat} {w : World} (h : WlS g gp j id ao cap go path w) (hid : id < 4294967296) (t v n : Nat) (ht : t < 4294967296) (hv : v < 2) (hn : n < 18446744073709551616) :
    Calls Tryz.prog 113 #[.pointer (some ⟨g, 0, none⟩), .int .u64 (t : Nat), .int .u64 (v : Nat), .int .u64 (n : Nat)] w (RetB (.int .u64 (drawW j id (path.length - 1) (2 * t + v) n : Nat)) w) := by
  have HB := Lib.hid (fun W => below_nat j.seed id (path.length - 1) (2 * t + v) n hn W)
  have h' := h.ext (ext_drew w)
  have c2 := h'.c2
  have c16 := h'.c16
  have c17 := h'.c17
  have hsm := h.small
  have hps := h.pos
  change Calls _ _ _ _ (RetB (.int .u64 ((belowZ (drawZ j.seed id ((path.length - 1 : Nat)) ((2 * t + v : Nat))) n).toNat : Nat)) w)
  obtain ⟨r, hr⟩ : ∃ r, (belowZ (drawZ j.seed id ((path.length - 1 : Nat)) ((2 * t + v : Nat))) n).toNat = r := ⟨_, rfl⟩
  rw [hr] at HB ⊢
  clear hr h h'
  have u1 : IntKind.u64.wrap (id : Int) = (id : Int) := IntWalk.u64_in _ (by omega)
  have u2 : IntKind.u64.wrap ((path.length : Int) - 1) = (path.length : Int) - 1 := IntWalk.u64_in _ (by omega)
  have u3 : IntKind.u64.wrap (2 * (t : Int)) = 2 * (t : Int) := IntWalk.u64_in _ (by omega)
  have u4 : IntKind.u64.wrap (2 * (t : Int) + (v : Int)) = 2 * (t : Int) + (v : Int) := IntWalk.u64_in _ (by omega)
  have u5 : IntKind.i64.wrap ((path.length : Int) - 1) = (path.length : Int) - 1 := IntWalk.i64_in _ (by omega)
  rw [show ((path.length - 1 : Nat) : Int) = (path.length : Int) - 1 by omega, show ((2 * t + v : Nat) : Int) = 2 * (t : Int) + (v : Int) by omega] at HB
  generalize j.seed = sd at *
  generalize path.length = m at *
  go_enter Tryz.func113, Tryz.ntmps113
  go_wp2_with fail
  refine wp_region_still_tail 23 (by kernel_rfl) (by kernel_rfl) ?_
  change wpStill _ _ (World.drew _) _ _ _
  simp only [List.take_succ_cons, List.take_zero, List.drop_succ_cons, List.drop_zero]
  repeat still_step
  refine wpStill_nil ?_
  change wpList _ _ _ _ _ (World.drew _)
  clear u1 u2 u3 u4 u5 c2 c16 c17
  go_wp2_with (go_at_call 51; (with_reducible refine (HB.out _).mono ?_); rintro e w2 ⟨rfl, hB⟩; have B2 := Lib.hid ((ext_drew w).trans (hB.mono (ext_drew w).size)); clear hB)
  go_ret
  exact ⟨rfl, B2.out⟩
def BckS (g kind stop od : Nat) (w : World) : Prop := w.cell? ⟨g, 1, none⟩ = some (.int .u8 (kind : Nat)) ∧ w.cell? ⟨g, 6, none⟩ = some (.int .u32 (stop : Nat)) ∧ w.cell? ⟨g, 7, none⟩ = some (.int .u32 (od : Nat))
theorem wback_any {g : Nat} {gp : Value} {j : JobD} {id : Nat} {ao : Option Addr} {cap : Nat} {go : Option Nat} {path : List Nat} {w : World} (h : WlS g gp j id ao cap go path w) (hid : id < 4294967296) (hj : JobOk j) :
    Calls Tryz.prog 69 #[.pointer (some ⟨g, 0, none⟩)] w (RetB (.bool (backW j id (path.length - 1))) w) := by
  have hod := hj.od
  have hsp := hj.stop
  by_cases hk : j.kind = 1
  · have k1 : ((j.kind : Int) == 1) = true := by rw [hk]; rfl
    have k1' : (j.kind == 1) = true := by rw [hk]; rfl
    have hr : backW j id (path.length - 1) = decide (drawW j id (path.length - 1) 0 j.od < j.stop) := by unfold backW; rw [decide_eq_true hk, Bool.true_and]
    have HT := Lib.hid (fun W (hB : Below w.heap.size w W) => wdraw_any (h.ext hB) hid 0 0 j.od (by omega) (by omega) (by omega))
    have Hr := Lib.hid hr
    have HS := Lib.hid (fun W (hB : Below w.heap.size w W) => (show BckS g j.kind j.stop j.od W from ⟨(h.ext hB).c1, (h.ext hB).c6, (h.ext hB).c7⟩))
    simp only [Nat.mul_zero, Nat.add_zero] at HT
    generalize drawW j id (path.length - 1) 0 j.od = u at *
    clear hk hr h hj
    generalize j.kind = kd at *
    generalize j.stop = sp at *
    generalize j.od = od at *
    have u1 : IntKind.u64.wrap (od : Int) = (od : Int) := IntWalk.u64_in _ (by omega)
    have u2 : IntKind.u64.wrap (sp : Int) = (sp : Int) := IntWalk.u64_in _ (by omega)
    go_enter Tryz.func69, Tryz.ntmps69
    go_wp2_with fail
    refine wp_region_held (S := BckS g kd sp od) (by kernel_rfl) ?_
    have hS0 : BckS g kd sp od w.drew := HS.out _ (ext_drew w)
    change wpAnyH _ _ _ _ _ _ _ _ (World.drew _)
    refine wpAnyH_take (i := 0) (oi := ⟨some 3, _, _, _, _, _⟩) (v := ?_) rfl (by kernel_rfl) (by kernel_rfl) (by kernel_rfl) (fun _ _ _ h => h) (Or.inl ⟨by rfl, ?_⟩) hS0 ?_
    rotate_left
    · (intro w' hSw; obtain ⟨s7, s12, s13⟩ := hSw; go_simp; try (with_reducible rfl))
    simp only [Act.put, List.setIfInBounds_toArray, List.set_cons_zero, List.set_cons_succ]
    refine wpAnyH_take (i := 1) (oi := ⟨some 4, _, _, _, _, _⟩) (v := ?_) rfl (by kernel_rfl) (by kernel_rfl) (by kernel_rfl) (fun _ _ _ h => h) (Or.inl ⟨by rfl, ?_⟩) hS0 ?_
    rotate_left
    · (intro w' hSw; obtain ⟨s7, s12, s13⟩ := hSw; go_simp; try (with_reducible rfl))
    simp only [Act.put, List.setIfInBounds_toArray, List.set_cons_zero, List.set_cons_succ]
    refine wpAnyH_take (i := 2) (oi := ⟨some 5, _, _, _, _, _⟩) (v := ?_) rfl (by kernel_rfl) (by kernel_rfl) (by kernel_rfl) (fun _ _ _ h => h) (Or.inl ⟨by rfl, ?_⟩) hS0 ?_
    rotate_left
    · (intro w' hSw; obtain ⟨s7, s12, s13⟩ := hSw; go_simp; try (with_reducible rfl))
    simp only [Act.put, List.setIfInBounds_toArray, List.set_cons_zero, List.set_cons_succ]
    refine wpAnyH_take (i := 3) (oi := ⟨some 6, _, _, _, _, _⟩) (v := ?_) rfl (by kernel_rfl) (by kernel_rfl) (by kernel_rfl) (fun _ _ _ h => h) (Or.inl ⟨by rfl, ?_⟩) hS0 ?_
    rotate_left
    · (intro w' hSw; obtain ⟨s7, s12, s13⟩ := hSw; go_simp; try (with_reducible rfl))
    simp only [Act.put, List.setIfInBounds_toArray, List.set_cons_zero, List.set_cons_succ]
    refine wpAnyH_take (i := 4) (oi := ⟨some 7, _, _, _, _, _⟩) (v := ?_) rfl (by kernel_rfl) (by kernel_rfl) (by kernel_rfl) (fun _ _ _ h => h) (Or.inl ⟨by rfl, ?_⟩) hS0 ?_
    rotate_left
    · (intro w' hSw; obtain ⟨s7, s12, s13⟩ := hSw; go_simp; try (with_reducible rfl))
    simp only [Act.put, List.setIfInBounds_toArray, List.set_cons_zero, List.set_cons_succ]
    refine wpAnyH_take (i := 5) (oi := ⟨some 8, _, _, _, _, _⟩) (v := ?_) rfl (by kernel_rfl) (by kernel_rfl) (by kernel_rfl) (fun _ _ _ h => h) (Or.inl ⟨by rfl, ?_⟩) hS0 ?_
    rotate_left
    · (intro w' hSw; obtain ⟨s7, s12, s13⟩ := hSw; go_simp; try (with_reducible rfl))
    simp only [Act.put, List.setIfInBounds_toArray, List.set_cons_zero, List.set_cons_succ]
    refine wpAnyH_take (i := 6) (oi := ⟨some 9, _, _, _, _, _⟩) (v := ?_) rfl (by kernel_rfl) (by kernel_rfl) (by kernel_rfl) (fun _ _ _ h => h) (Or.inl ⟨by rfl, ?_⟩) hS0 ?_
    rotate_left
    · (intro w' hSw; obtain ⟨s7, s12, s13⟩ := hSw; go_simp; try (with_reducible rfl))
    simp only [Act.put, List.setIfInBounds_toArray, List.set_cons_zero, List.set_cons_succ]
    refine wpAnyH_take (i := 7) (oi := ⟨some 10, _, _, _, _, _⟩) (v := ?_) rfl (by kernel_rfl) (by kernel_rfl) (by kernel_rfl) (fun _ _ _ h => h) (Or.inl ⟨by rfl, ?_⟩) hS0 ?_
    rotate_left
    · (intro w' hSw; obtain ⟨s7, s12, s13⟩ := hSw; go_simp; try (with_reducible rfl))
    simp only [Act.put, List.setIfInBounds_toArray, List.set_cons_zero, List.set_cons_succ]
    refine wpAnyH_take (i := 8) (oi := ⟨some 11, _, _, _, _, _⟩) (v := ?_) rfl (by kernel_rfl) (by kernel_rfl) (by kernel_rfl) (fun _ _ _ h => h) (Or.inl ⟨by rfl, ?_⟩) hS0 ?_
    rotate_left
    · (intro w' hSw; obtain ⟨s7, s12, s13⟩ := hSw; go_simp; try (with_reducible rfl))
    simp only [Act.put, List.setIfInBounds_toArray, List.set_cons_zero, List.set_cons_succ]
    refine wpAnyH_take (i := 9) (oi := ⟨some 12, _, _, _, _, _⟩) (v := ?_) rfl (by kernel_rfl) (by kernel_rfl) (by kernel_rfl) (fun _ _ _ h => h) (Or.inl ⟨by rfl, ?_⟩) hS0 ?_
    rotate_left
    · (intro w' hSw; obtain ⟨s7, s12, s13⟩ := hSw; go_simp; try (with_reducible rfl))
    simp only [Act.put, List.setIfInBounds_toArray, List.set_cons_zero, List.set_cons_succ]
    refine wpAnyH_take (i := 10) (oi := ⟨some 13, _, _, _, _, _⟩) (v := ?_) rfl (by kernel_rfl) (by kernel_rfl) (by kernel_rfl) (fun _ _ _ h => h) (Or.inl ⟨by rfl, ?_⟩) hS0 ?_
    rotate_left
    · (intro w' hSw; obtain ⟨s7, s12, s13⟩ := hSw; go_simp; try (with_reducible rfl))
    simp only [Act.put, List.setIfInBounds_toArray, List.set_cons_zero, List.set_cons_succ]
    refine wpAnyH_take (i := 11) (oi := ⟨some 14, _, _, _, _, _⟩) (v := ?_) rfl (by kernel_rfl) (by kernel_rfl) (by kernel_rfl) (fun _ _ _ h => h) (Or.inl ⟨by rfl, ?_⟩) hS0 ?_
    rotate_left
    · (intro w' hSw; obtain ⟨s7, s12, s13⟩ := hSw; go_simp; try (with_reducible rfl))
    simp only [Act.put, List.setIfInBounds_toArray, List.set_cons_zero, List.set_cons_succ]
    refine wpAnyH_take (i := 12) (oi := ⟨some 15, _, _, _, _, _⟩) (v := ?_) rfl (by kernel_rfl) (by kernel_rfl) (by kernel_rfl) (fun _ _ _ h => h) (Or.inl ⟨by rfl, ?_⟩) hS0 ?_
    rotate_left
    · (intro w' hSw; obtain ⟨s7, s12, s13⟩ := hSw; go_simp; try (with_reducible rfl))
    simp only [Act.put, List.setIfInBounds_toArray, List.set_cons_zero, List.set_cons_succ]
    refine wpAnyH_take (i := 13) (oi := ⟨some 16, _, _, _, _, _⟩) (v := ?_) rfl (by kernel_rfl) (by kernel_rfl) (by kernel_rfl) (fun _ _ _ h => h) (Or.inl ⟨by rfl, ?_⟩) hS0 ?_
    rotate_left
    · (intro w' hSw; obtain ⟨s7, s12, s13⟩ := hSw; go_simp; try (with_reducible rfl))
    simp only [Act.put, List.setIfInBounds_toArray, List.set_cons_zero, List.set_cons_succ]
    refine wpAnyH_take (i := 15) (oi := ⟨some 18, _, _, _, _, _⟩) (v := ?_) rfl (by kernel_rfl) (by kernel_rfl) (by kernel_rfl) (fun _ _ _ h => h) (Or.inl ⟨by rfl, ?_⟩) hS0 ?_
    rotate_left
    · (intro w' hSw; obtain ⟨s7, s12, s13⟩ := hSw; go_simp; try (with_reducible rfl))
    simp only [Act.put, List.setIfInBounds_toArray, List.set_cons_zero, List.set_cons_succ]
    refine wpAnyH_take (i := 16) (oi := ⟨some 19, _, _, _, _, _⟩) (v := ?_) rfl (by kernel_rfl) (by kernel_rfl) (by kernel_rfl) (fun _ _ _ h => h) (Or.inl ⟨by rfl, ?_⟩) hS0 ?_
    rotate_left
    · (intro w' hSw; obtain ⟨s7, s12, s13⟩ := hSw; go_simp; try (with_reducible rfl))
    simp only [Act.put, List.setIfInBounds_toArray, List.set_cons_zero, List.set_cons_succ]
    refine wpAnyH_take (i := 17) (oi := ⟨some 20, _, _, _, _, _⟩) (v := ?_) rfl (by kernel_rfl) (by kernel_rfl) (by kernel_rfl) (fun _ _ _ h => h) (Or.inl ⟨by rfl, ?_⟩) hS0 ?_
    rotate_left
    · (intro w' hSw; obtain ⟨s7, s12, s13⟩ := hSw; go_simp; try (with_reducible rfl))
    simp only [Act.put, List.setIfInBounds_toArray, List.set_cons_zero, List.set_cons_succ]
    refine wpAnyH_take (i := 18) (oi := ⟨some 21, _, _, _, _, _⟩) (v := ?_) rfl (by kernel_rfl) (by kernel_rfl) (by kernel_rfl) (fun _ _ _ h => h) (Or.inl ⟨by rfl, ?_⟩) hS0 ?_
    rotate_left
    · (intro w' hSw; obtain ⟨s7, s12, s13⟩ := hSw; go_simp; try (with_reducible rfl))
    simp only [Act.put, List.setIfInBounds_toArray, List.set_cons_zero, List.set_cons_succ]
    refine wpAnyH_take (i := 19) (oi := ⟨some 22, _, _, _, _, _⟩) (v := ?_) rfl (by kernel_rfl) (by kernel_rfl) (by kernel_rfl) (fun _ _ _ h => h) (Or.inl ⟨by rfl, ?_⟩) hS0 ?_
    rotate_left
    · (intro w' hSw; obtain ⟨s7, s12, s13⟩ := hSw; go_simp; try (with_reducible rfl))
    simp only [Act.put, List.setIfInBounds_toArray, List.set_cons_zero, List.set_cons_succ]
    refine wpAnyH_take (i := 20) (oi := ⟨some 23, _, _, _, _, _⟩) (v := ?_) rfl (by kernel_rfl) (by kernel_rfl) (by kernel_rfl) (fun _ _ _ h => h) (Or.inl ⟨by rfl, ?_⟩) hS0 ?_
    rotate_left
    · (intro w' hSw; obtain ⟨s7, s12, s13⟩ := hSw; go_simp; try (with_reducible rfl))
    simp only [Act.put, List.setIfInBounds_toArray, List.set_cons_zero, List.set_cons_succ]
    refine wpAnyH_all (rs := [14]) (by kernel_rfl) (by simp) ?_
    intro i hi
    rw [List.mem_singleton] at hi
    subst hi
    refine wpOp_runW (o := ⟨some 17, _, _, _, _, _⟩) rfl rfl fun K' hK => ?_
    go_simp
    refine (HT.out _ (ext_drew w)).mono ?_
    rintro e w3 ⟨rfl, hB⟩
    have hB3 := (ext_drew w).trans hB
    have B3 := Lib.hid hB3
    clear hB hS0
    have hS0 := HS.out _ hB3
    clear hB3
    refine hK _ _ ⟨hS0, ?_⟩
    clear hK K'
    try simp only [Act.put, List.setIfInBounds_toArray, List.set_cons_zero, List.set_cons_succ]
    refine wpAnyH_take (i := 21) (oi := ⟨some 24, _, _, _, _, _⟩) (v := ?_) rfl (by kernel_rfl) (by kernel_rfl) (by kernel_rfl) (fun _ _ _ h => h) (Or.inl ⟨by rfl, ?_⟩) hS0 ?_
    rotate_left
    · (intro w' hSw; obtain ⟨s7, s12, s13⟩ := hSw; go_simp; try (with_reducible rfl))
    simp only [Act.put, List.setIfInBounds_toArray, List.set_cons_zero, List.set_cons_succ]
    refine wpAnyH_take (i := 22) (oi := ⟨some 25, _, _, _, _, _⟩) (v := ?_) rfl (by kernel_rfl) (by kernel_rfl) (by kernel_rfl) (fun _ _ _ h => h) (Or.inl ⟨by rfl, ?_⟩) hS0 ?_
    rotate_left
    · (intro w' hSw; obtain ⟨s7, s12, s13⟩ := hSw; go_simp; try (with_reducible rfl))
    simp only [Act.put, List.setIfInBounds_toArray, List.set_cons_zero, List.set_cons_succ]
    refine wpAnyH_take (i := 23) (oi := ⟨some 2, _, _, _, _, _⟩) (v := ?_) rfl (by kernel_rfl) (by kernel_rfl) (by kernel_rfl) (fun _ _ _ h => h) (Or.inl ⟨by rfl, ?_⟩) hS0 ?_
    rotate_left
    · (intro w' hSw; obtain ⟨s7, s12, s13⟩ := hSw; go_simp; try (with_reducible rfl))
    simp only [Act.put, List.setIfInBounds_toArray, List.set_cons_zero, List.set_cons_succ]
    refine wpAnyH_done (by kernel_rfl) ?_ _
    clear u1 u2
    go_wp2_with fail
    go_ret
    refine ⟨?_, B3.out⟩
    rw [Hr.out]
    simp
  · have k1 : ((j.kind : Int) == 1) = false := beq_eq_false_iff_ne.2 (by omega)
    have k1' : (j.kind == 1) = false := beq_eq_false_iff_ne.2 hk
    have hr : backW j id (path.length - 1) = false := by unfold backW; rw [decide_eq_false hk, Bool.false_and]
    have c1 := h.c1
    rw [hr]
    clear hr hk h hj
    generalize j.kind = kd at *
    go_enter Tryz.func69, Tryz.ntmps69
    go_wp2_with fail
    go_quiet (fail)
    go_wp2_with fail
    go_ret
    exact ⟨rfl, ext_drewN w _⟩
end Go.Proofs.YtcklfffeimnfeaaGreat
