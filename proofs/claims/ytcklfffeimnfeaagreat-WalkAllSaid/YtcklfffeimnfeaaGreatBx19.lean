/- Texts merged into one: AliasT6, RemapW, Cmp, ArcFind, GraphFind. -/
import Derived.Test.YtcklfffeimnfeaaGreatBx08
import Derived.Test.YtcklfffeimnfeaaGreatBx18
import Derived.Test.YtcklfffeimnfeaaGreatBx03
import Derived.Test.YtcklfffeimnfeaaGreatBx14
import Derived.Test.YtcklfffeimnfeaaGreatBx15
set_option maxRecDepth 100000
set_option maxHeartbeats 12800000
set_option linter.unusedSimpArgs false
set_option linter.unusedVariables false
namespace Go.Proofs.YtcklfffeimnfeaaGreat

theorem first_unique {x : Nat} {p p' : Nat × Nat} : ∀ {A B pre : List (Nat × Nat)}, pre ++ [p'] <+: A ++ p :: B → (∀ q ∈ A, q.1 + q.2 ≤ x) → x < p.1 + p.2 → (∀ q ∈ pre, q.1 + q.2 ≤ x) → x < p'.1 + p'.2 → pre = A ∧ p' = p
  | [], B, [], h, _, _, _, _ => by
    rw [List.nil_append, List.nil_append, List.cons_prefix_cons] at h
    exact ⟨rfl, h.1⟩
  | [], B, a :: pre, h, _, h2, h3, _ => by
    rw [List.nil_append, List.cons_append, List.cons_prefix_cons] at h
    have := h3 a (by simp)
    rw [h.1] at this
    omega
  | a :: A, B, [], h, h1, _, _, h4 => by
    rw [List.nil_append, List.cons_append, List.cons_prefix_cons] at h
    have := h1 a (by simp)
    rw [← h.1] at this
    omega
  | a :: A, B, b :: pre, h, h1, h2, h3, h4 => by
    rw [List.cons_append, List.cons_append, List.cons_prefix_cons] at h
    obtain ⟨e1, e2⟩ := first_unique h.2 (fun q hq => h1 q (by simp [hq])) h2 (fun q hq => h3 q (by simp [hq])) h4
    exact ⟨by rw [h.1, e1], e2⟩
/-- the run that a draw lies in -/
theorem piece_at {w x tv : Nat} (hw : 0 < w) : ∀ (T : List (Nat × Nat)) (k : Nat), (∀ c ∈ T, c.1 ≤ w) → k * w ≤ x → x < (k + T.length) * w →
    (∀ c, T[x / w - k]? = some c → tv = if x % w < c.1 then x / w else c.2) → ∃ A p B, piecesT w tv k T = A ++ p :: B ∧ (∀ q ∈ A, q.1 + q.2 ≤ x) ∧ p.1 ≤ x ∧ x < p.1 + p.2
  | [], k, _, h1, h2, _ => by simp at h2; omega
  | c :: T, k, hc, h1, h2, ht => by
    have hcw := hc c (by simp)
    by_cases hq : x < (k + 1) * w
    · have hqk : x / w = k := Nat.div_eq_of_lt_le (by rw [Nat.mul_comm] at h1 ⊢ <;> exact h1) hq
      have hr : x % w = x - k * w := by rw [Nat.mod_eq_sub_div_mul, hqk]
      have ht := ht c (by rw [hqk]; simp)
      rw [hqk, hr] at ht
      have hxw : x - k * w < w := by rw [Nat.add_mul, Nat.one_mul] at hq; omega
      by_cases hlt : x - k * w < c.1
      · rw [if_pos hlt] at ht
        subst ht
        refine ⟨[], (tv * w, c.1), (if c.2 = tv ∧ c.1 < w then [(tv * w + c.1, w - c.1)] else []) ++ piecesT w tv (tv + 1) T, ?_, by simp, h1, by show x < tv * w + c.1; omega⟩
        rw [piecesT, if_pos ⟨rfl, by omega⟩]
        simp
      · rw [if_neg hlt] at ht
        subst ht
        refine ⟨if k = c.2 ∧ 0 < c.1 then [(k * w, c.1)] else [], (k * w + c.1, w - c.1), piecesT w c.2 (k + 1) T, ?_, ?_, by show k * w + c.1 ≤ x; omega, by show x < k * w + c.1 + (w - c.1); omega⟩
        · rw [piecesT, if_pos (⟨rfl, by omega⟩ : c.2 = c.2 ∧ c.1 < w)]
          simp
        · intro q hq
          split at hq
          · rw [List.mem_singleton] at hq; subst hq; show k * w + c.1 ≤ x; omega
          · cases hq
    · have hge : (k + 1) * w ≤ x := by omega
      have hkw : k * w + w ≤ x := by rw [Nat.add_mul, Nat.one_mul] at hge; exact hge
      have hqd : k + 1 ≤ x / w := (Nat.le_div_iff_mul_le hw).2 hge
      obtain ⟨A, p, B, e, hA, hp1, hp2⟩ := piece_at (tv := tv) hw T (k + 1) (fun d hd => hc d (by simp [hd])) hge (by rw [show k + 1 + T.length = k + (c :: T).length by simp; omega]; exact h2) (fun d hd => ht d (by
        rw [show x / w - k = (x / w - (k + 1)) + 1 by omega, List.getElem?_cons_succ]; exact hd))
      refine ⟨(if k = tv ∧ 0 < c.1 then [(k * w, c.1)] else []) ++ (if c.2 = tv ∧ c.1 < w then [(k * w + c.1, w - c.1)] else []) ++ A, p, B, by rw [piecesT, e]; simp, ?_, hp1, hp2⟩
      intro q hq
      rcases List.mem_append.1 hq with hq | hq
      · rcases List.mem_append.1 hq with hq | hq
        · split at hq
          · rw [List.mem_singleton] at hq; subst hq; show k * w + c.1 ≤ x; omega
          · cases hq
        · split at hq
          · rw [List.mem_singleton] at hq; subst hq; show k * w + c.1 + (w - c.1) ≤ x; omega
          · cases hq
      · exact hA q hq
theorem toT_getD {T : List (Nat × Nat)} {w x : Nat} {c : Nat × Nat} (hc : T[x / w]? = some c) : toT T w x = if x % w < c.1 then x / w else c.2 := by
  unfold toT
  rw [List.getD_eq_getElem?_getD, hc]
  rfl
/-- where the search through the runs stops -/
theorem remap_stop {W : List Nat} {T : List (Nat × Nat)} {x : Nat} (hT : RightT W T) (hx : x < W.length * W.sum) {pre : List (Nat × Nat)} {p : Nat × Nat} (h : pre ++ [p] <+: piecesT W.sum (toT T W.sum x) 0 T) (h1 : ∀ q ∈ pre, q.1 + q.2 ≤ x) (h2 : x < p.1 + p.2) :
    p.1 ≤ x ∧ remapT W T x = frontT W (toT T W.sum x) + (pre.map (·.2)).sum + x - p.1 := by
  have hw : 0 < W.sum := Nat.pos_of_ne_zero (fun e => by rw [e] at hx; simp at hx)
  obtain ⟨A, p', B, e, hA, hp1, hp2⟩ := piece_at (x := x) (tv := toT T W.sum x) hw T 0 (fun c hc => by
    obtain ⟨i, hi⟩ := List.mem_iff_getElem?.1 hc
    exact (hT.2.1 i c hi).1) (by simp) (by rw [hT.1, Nat.zero_add]; exact hx) (fun c hc => toT_getD (by rw [Nat.sub_zero] at hc; exact hc))
  obtain ⟨rfl, rfl⟩ := first_unique (by rw [← e]; exact h) hA hp2 h1 h2
  have hg := (remap_go hT hx).1
  rw [e, goP_app _ _ _ _ hA, goP, if_pos hp2] at hg
  exact ⟨hp1, (Option.some.inj hg).symm⟩
theorem remap_none {W : List Nat} {T : List (Nat × Nat)} {x : Nat} (hT : RightT W T) (hx : x < W.length * W.sum) (h1 : ∀ q ∈ piecesT W.sum (toT T W.sum x) 0 T, q.1 + q.2 ≤ x) : False := by
  have hg := (remap_go hT hx).1
  rw [← List.append_nil (piecesT _ _ _ _), goP_app _ _ _ _ h1, goP] at hg
  cases hg
theorem pieces_sum (w tv : Nat) : ∀ (T : List (Nat × Nat)) (k : Nat), (∀ c ∈ T, c.1 ≤ w) → ((piecesT w tv k T).map (·.2)).sum ≤ 2 * w * T.length
  | [], k, _ => by simp [piecesT]
  | c :: T, k, h => by
    have h1 := pieces_sum w tv T (k + 1) (fun d hd => h d (by simp [hd]))
    have h2 := h c (by simp)
    rw [piecesT, List.map_append, List.sum_append, List.map_append, List.sum_append, List.length_cons, Nat.mul_add, Nat.mul_one]
    have e1 : ((if k = tv ∧ 0 < c.1 then [(k * w, c.1)] else []).map (·.2)).sum ≤ w := by split <;> simp <;> omega
    have e2 : ((if c.2 = tv ∧ c.1 < w then [(k * w + c.1, w - c.1)] else []).map (·.2)).sum ≤ w := by split <;> simp
    omega
theorem pieces_end {w tv : Nat} : ∀ (T : List (Nat × Nat)) (k : Nat), (∀ c ∈ T, c.1 ≤ w) → ∀ p ∈ piecesT w tv k T, p.1 + p.2 ≤ (k + T.length) * w
  | [], k, _, p, hp => by simp [piecesT] at hp
  | c :: T, k, h, p, hp => by
    have h2 := h c (by simp)
    have hm : (k + 1) * w ≤ (k + (c :: T).length) * w := Nat.mul_le_mul_right w (by simp)
    have hm1 : (k + 1) * w = k * w + w := by rw [Nat.add_mul, Nat.one_mul]
    rw [piecesT] at hp
    rcases List.mem_append.1 hp with hp | hp
    · rcases List.mem_append.1 hp with hp | hp
      · split at hp
        · rw [List.mem_singleton] at hp; subst hp; simp only; omega
        · cases hp
      · split at hp
        · rw [List.mem_singleton] at hp; subst hp; simp only; omega
        · cases hp
    · have := pieces_end T (k + 1) (fun d hd => h d (by simp [hd])) p hp
      rw [show k + (c :: T).length = k + 1 + T.length by simp; omega]
      exact this
end Go.Proofs.YtcklfffeimnfeaaGreat

namespace Go.Proofs.YtcklfffeimnfeaaGreat
open Go.RowKit

theorem pieces_any (ao : Option Addr) (n cap : Nat) (ww tv : Nat) (w : World) :
    Calls Tryz.prog 143 #[.slice ao n cap, .int .u64 (ww : Nat), .int .i64 (tv : Nat)] w fun e w' => e = .returned (.func (.func 156) #[] #[.pointer (some ⟨w.heap.size, 0, none⟩), .pointer (some ⟨w.heap.size + 1, 0, none⟩), .pointer (some ⟨w.heap.size + 2, 0, none⟩)]) ∧
      w' = ((w.alloc (.cells #[.slice ao n cap] 61)).alloc (.cells #[.int .u64 (ww : Nat)] 23)).alloc (.cells #[.int .i64 (tv : Nat)] 3) := by
  have hmf : ∀ (fn : Fn) (first cap : Array Value) (w : World), (Instr.makeFunc fn first cap).run Tryz.prog w = .ok (.func fn first cap) w := fun _ _ _ _ => rfl
  go_enter Tryz.func143, Tryz.ntmps143
  go_wp2
  go_ret
  exact ⟨rfl, rfl⟩
/-- the search's state: the draw's box at s, the results' at s + 1 and s + 2, y's at yb -/
def rmI (s yb x y0 : Nat) (pre : List (Nat × Nat)) (fq : Nat → Prop) (W : World) : Prop :=
  (∀ q ∈ pre, q.1 + q.2 ≤ x) ∧ W.cell? ⟨s, 0, none⟩ = some (.int .u64 (x : Nat)) ∧ (W.cell? ⟨s + 1, 0, none⟩ = some (.int .u64 0) ∧ W.frozen? ⟨s + 1, 0, none⟩ = false) ∧ (W.cell? ⟨s + 2, 0, none⟩ = some (.bool false) ∧ W.frozen? ⟨s + 2, 0, none⟩ = false) ∧
    (W.cell? ⟨yb, 0, none⟩ = some (.int .u64 (y0 + (pre.map (·.2)).sum : Nat)) ∧ W.frozen? ⟨yb, 0, none⟩ = false) ∧ fq s ∧ fq (s + 1) ∧ fq (s + 2) ∧ fq yb
def rmX (s x y0 : Nat) (c : Code) (pre : List (Nat × Nat)) (fq : Nat → Prop) (W : World) : Prop :=
  c = .ret ∧ fq (s + 1) ∧ fq (s + 2) ∧ ∃ q p, pre = q ++ [p] ∧ (∀ z ∈ q, z.1 + z.2 ≤ x) ∧ x < p.1 + p.2 ∧ W.cell? ⟨s + 1, 0, none⟩ = some (.int .u64 (y0 + (q.map (·.2)).sum + x - p.1 : Nat)) ∧ W.cell? ⟨s + 2, 0, none⟩ = some (.bool true)
theorem alias_to {l : List ArcD} {T : List CellD} {x : Nat} (hm : mayA l = true) (hT : RightT (l.map (·.2)) T) (hx : x < totalM l) : aliasM l T x = some (toT T (sumA l) x) := by
  have hTl : T.length = l.length := by rw [hT.1, List.length_map]
  have htot : totalM l = sumA l * l.length := by unfold totalM; rw [if_pos hm]
  have hw : 0 < sumA l := Nat.pos_of_ne_zero (fun e => by rw [htot, e] at hx; simp at hx)
  have hq : x / sumA l < T.length := by rw [hTl, Nat.div_lt_iff_lt_mul hw, Nat.mul_comm, ← htot]; exact hx
  have hg : T[x / sumA l]? = some T[x / sumA l] := List.getElem?_eq_getElem hq
  unfold aliasM
  rw [if_neg (by omega), toT_getD hg, getElem!_pos T _ hq]
  split
  · rfl
  · have h2 := (hT.2.1 _ _ hg).2
    rw [List.length_map] at h2
    rw [if_pos h2]
attribute [local go_sem] Oper.semAt_some
theorem remap_any (l : List ArcD) (T : List CellD) (x : Nat) (ao bo : Option Addr) (ca cb : Nat) (fp fq : Nat → Prop) (w : World) (hl : l.length ≤ 1000) (hne : l ≠ []) (hm : mayA l = true) (hT : RightT (l.map (·.2)) T) (hx : x < totalM l)
    (hfp : ∀ b, fp b → b < w.heap.size) (hfq : ∀ b, fq b → b < w.heap.size) (hrd : RdS arcRep fp w ao l) (hrt : RdS cellRep fq w bo T) :
    Calls Tryz.prog 114 #[.slice ao l.length ca, .slice bo T.length cb, .int .u64 (x : Nat)] w (RetB (.tuple #[.int .u64 (remapT (l.map (·.2)) T x : Nat), .bool true]) w) := by
  have hTl : T.length = l.length := by rw [hT.1, List.length_map]
  have hs : sumA l ≤ 2147483647 := (of_decide_eq_true hm).2.2
  have htot : totalM l = sumA l * l.length := by unfold totalM; rw [if_pos hm]
  have hxw : x < (l.map (·.2)).length * (l.map (·.2)).sum := by rw [List.length_map, Nat.mul_comm]; rw [htot] at hx; exact hx
  have hxb : x < 2147483647 * 1000 := by rw [htot] at hx; exact Nat.lt_of_lt_of_le hx (Nat.mul_le_mul hs hl)
  have htv : toT T (sumA l) x < l.length := by have h := toT_lt hT hxw; rw [List.length_map] at h; exact h
  have hcw : ∀ c ∈ T, c.1 ≤ sumA l := fun c hc => by
    obtain ⟨i, hi⟩ := List.mem_iff_getElem?.1 hc
    exact (hT.2.1 i c hi).1
  have HA := Lib.hid (fun W (h : Below w.heap.size w W) => (alias_to hm hT hx) ▸ alias_any l T x (by omega) ao bo ca cb fp fq W (by omega) (by omega) (hrd.ext h) (hrt.ext h))
  have HM := Lib.hid (fun W (h : Below w.heap.size w W) => tmay_any l T ao bo ca cb fp fq W hl hne hm hT (hrd.ext h) (hrt.ext h))
  have HS := Lib.hid (fun W (h : Below w.heap.size w W) => gsum_any l ao ca fp W (by omega) (hrd.ext h))
  have HF := Lib.hid (fun W (h : Below w.heap.size w W) => front_any l (toT T (sumA l) x) ao ca fp W hl hs htv (fun b hb => Nat.lt_of_lt_of_le (hfp b hb) h.size) (hrd.ext h))
  have hit := fun b1 b2 b3 => (pieces_iter b1 b2 b3 T (sumA l) (toT T (sumA l) x) bo cb fq (by omega) hs (by omega) hcw).toT
  have Hstop := Lib.hid (fun pre p h h1 h2 => remap_stop (pre := pre) (p := p) hT hxw h h1 h2)
  have Hnone := Lib.hid (fun h => remap_none hT hxw h)
  have hfl : frontT (l.map (·.2)) (toT T (sumA l) x) ≤ 1000 * 2147483647 := by
    have h1 := frontT_le (l.map (·.2)) (show toT T (sumA l) x ≤ (l.map (·.2)).length by rw [List.length_map]; omega)
    rw [frontT_all, List.length_map] at h1
    exact Nat.le_trans h1 (Nat.mul_le_mul hl hs)
  have hps := pieces_sum (sumA l) (toT T (sumA l) x) T 0 hcw
  have hpe := fun p hp => pieces_end (w := sumA l) (tv := toT T (sumA l) x) T 0 hcw p hp
  have hps2 : ((piecesT (sumA l) (toT T (sumA l) x) 0 T).map (·.2)).sum ≤ 2 * 2147483647 * 1000 := Nat.le_trans hps (Nat.mul_le_mul (Nat.mul_le_mul_left 2 hs) (by omega))
  have hpe2 : ∀ p ∈ piecesT (sumA l) (toT T (sumA l) x) 0 T, p.1 + p.2 ≤ 1000 * 2147483647 := fun p hp => Nat.le_trans (hpe p hp) (Nat.mul_le_mul (by omega) hs)
  have Hps := Lib.hid hps2
  have Hpe := Lib.hid hpe2
  have Hrt := Lib.hid hrt
  have Hrd := Lib.hid hrd
  change Hid (∀ W, _ → Calls Tryz.prog 50 _ W (RetB (.tuple #[.int .i64 (toT T (sumA l) x : Nat), .bool true]) W)) at HA
  change Hid (∀ pre p, pre ++ [p] <+: piecesT (sumA l) (toT T (sumA l) x) 0 T → _ → _ → p.1 ≤ x ∧ remapT (l.map (·.2)) T x = frontT (l.map (·.2)) (toT T (sumA l) x) + (pre.map (·.2)).sum + x - p.1) at Hstop
  change Hid ((∀ q ∈ piecesT (sumA l) (toT T (sumA l) x) 0 T, q.1 + q.2 ≤ x) → False) at Hnone
  obtain ⟨R, hR⟩ : ∃ R, remapT (l.map (·.2)) T x = R := ⟨_, rfl⟩
  obtain ⟨tv, htve⟩ : ∃ tv, toT T (sumA l) x = tv := ⟨_, rfl⟩
  obtain ⟨y0, hy0⟩ : ∃ y0, frontT (l.map (·.2)) tv = y0 := ⟨_, rfl⟩
  obtain ⟨ww, hww⟩ : ∃ ww, sumA l = ww := ⟨_, rfl⟩
  rw [hR] at Hstop ⊢
  rw [htve] at HA HF hit Hstop Hnone hfl Hps Hpe htv
  rw [hy0] at HF Hstop hfl
  rw [hww] at HS hit Hstop Hnone Hps Hpe hs
  clear hrd hrt hps hpe hps2 hpe2 hcw hxw htot hR htve hy0 hww hx hm hne hT
  obtain ⟨nT, hnT⟩ : ∃ nT, T.length = nT := ⟨_, rfl⟩
  rw [hnT] at HA HM hit hTl ⊢
  have htl2 : nT ≤ 1000 := by omega
  clear hTl hnT
  refine (callsIn_wide (n := 0)).1 (callsIn_of_wp_marks Tryz.func114 rfl trivial ?_)
  simp only [Tryz.ntmps114, List.size_toArray, List.length_cons, List.length_nil, Nat.reduceAdd, Nat.reduceSub, Array.replicate_succ, Array.replicate_zero, List.push_toArray, List.append_toArray, List.nil_append, List.cons_append]
  gi_wp2_with fail
  obtain ⟨w1, hw1⟩ : ∃ w1, (((w.alloc (Obj.cells #[Value.int IntKind.u64 (x : Nat)] 23)).alloc (Obj.cells #[Value.int IntKind.u64 0] 23)).alloc (Obj.cells #[Value.bool false] 4)) = w1 := ⟨_, rfl⟩
  have hs1 : w1.heap.size = w.heap.size + 3 := by rw [← hw1]; simp
  have hB1 : Below w.heap.size w w1 := by rw [← hw1]; exact ((ext_alloc w _).alloc (by simp) _).alloc (by simp; omega) _
  have c0 : w1.cell? ⟨w.heap.size, 0, none⟩ = some (.int .u64 (x : Nat)) := by rw [← hw1]; simp [go_sem, ↓IntWalk.iteOmega]
  have c1 : w1.cell? ⟨w.heap.size + 1, 0, none⟩ = some (.int .u64 0) ∧ w1.frozen? ⟨w.heap.size + 1, 0, none⟩ = false := by rw [← hw1]; exact ⟨by simp [go_sem, ↓IntWalk.iteOmega], by simp only [go_sem]; simp⟩
  have c2 : w1.cell? ⟨w.heap.size + 2, 0, none⟩ = some (.bool false) ∧ w1.frozen? ⟨w.heap.size + 2, 0, none⟩ = false := by rw [← hw1]; exact ⟨by simp [go_sem, ↓IntWalk.iteOmega], by simp only [go_sem]; simp⟩
  rw [hw1]
  have HB1 := Lib.hid hB1
  have HC1 := Lib.hid c1
  have HC2 := Lib.hid c2
  clear hw1 hB1 c1 c2
  gi_wp2_with (first
    | (gi_at_call 50; refine (callsIn_wide.2 (HA.out _ HB1.out)).mono ?_; rintro e w2 ⟨rfl, hB⟩; have C2 := Lib.hid hB; clear hB)
    | (gi_at_call 141; refine (callsIn_wide.2 (HM.out _ (HB1.out.trans (C2.out.mono (by omega))))).mono ?_; rintro e w3 ⟨rfl, hB⟩; have C3 := Lib.hid (C2.out.trans (hB.mono C2.out.size)); clear hB)
    | (gi_at_call 142; refine (callsIn_wide.2 (HF.out _ (HB1.out.trans (C3.out.mono (by omega))))).mono ?_; rintro e w4 ⟨rfl, hB⟩; have C4 := Lib.hid (C3.out.trans (hB.mono C3.out.size)); clear hB))
  obtain ⟨w5, hw5⟩ : ∃ w5, w4.alloc (Obj.cells #[Value.int IntKind.u64 (y0 : Nat)] 23) = w5 := ⟨_, rfl⟩
  have hs4 := C4.out.size
  have hs5 : w5.heap.size = w4.heap.size + 1 := by rw [← hw5]; simp
  have hB5 : Below w1.heap.size w1 w5 := by rw [← hw5]; exact C4.out.alloc C4.out.size _
  have hy5 : w5.cell? ⟨w4.heap.size, 0, none⟩ = some (.int .u64 (y0 : Nat)) ∧ w5.frozen? ⟨w4.heap.size, 0, none⟩ = false := by rw [← hw5]; exact ⟨by simp, by simp only [go_sem]⟩
  rw [hw5]
  have C5 := Lib.hid hB5
  have Hy5 := Lib.hid hy5
  obtain ⟨yb, hyb⟩ : ∃ yb, w4.heap.size = yb := ⟨_, rfl⟩
  rw [hyb] at hs4 hs5 Hy5 ⊢
  clear hw5 hB5 hy5 hyb C2 C3 C4
  gi_wp2_with (first
    | (gi_at_call 84; refine (callsIn_wide.2 (HS.out _ (HB1.out.trans (C5.out.mono (by omega))))).mono ?_; rintro e w6 ⟨rfl, hB⟩; have C6 := Lib.hid hB; clear hB)
    | (gi_at_call 143; refine (callsIn_wide.2 (pieces_any _ _ _ _ _ _)).mono ?_; rintro e w7 ⟨rfl, rfl⟩))
  have hs6 := C6.out.size
  obtain ⟨w8, hw8⟩ : ∃ w8, ((w6.alloc (.cells #[.slice bo nT cb] 61)).alloc (.cells #[.int .u64 (ww : Nat)] 23)).alloc (.cells #[.int .i64 (tv : Nat)] 3) = w8 := ⟨_, rfl⟩
  have hs8 : w8.heap.size = w6.heap.size + 3 := by rw [← hw8]; simp
  have hB8 : Below w5.heap.size w5 w8 := by rw [← hw8]; exact ((C6.out.alloc C6.out.size _).alloc (by simp; try omega) _).alloc (by simp; try omega) _
  have d1 : w8.cell? ⟨w6.heap.size, 0, none⟩ = some (.slice bo nT cb) := by rw [← hw8]; simp [go_sem, ↓IntWalk.iteOmega]
  have d2 : w8.cell? ⟨w6.heap.size + 1, 0, none⟩ = some (.int .u64 (ww : Nat)) := by rw [← hw8]; simp [go_sem, ↓IntWalk.iteOmega]
  have d3 : w8.cell? ⟨w6.heap.size + 2, 0, none⟩ = some (.int .i64 (tv : Nat)) := by rw [← hw8]; simp [go_sem, ↓IntWalk.iteOmega]
  have hB18 : Below w1.heap.size w1 w8 := C5.out.trans (hB8.mono (by omega))
  have hI0 : rmI w.heap.size yb x y0 [] (fun b => b = w.heap.size ∨ b = w.heap.size + 1 ∨ b = w.heap.size + 2 ∨ b = yb) w8 := by
    obtain ⟨k1, k2⟩ := bcell hB18
    obtain ⟨m1, m2⟩ := bcell hB8
    exact ⟨by simp, (k1 _ 0 (by omega)).trans c0, ⟨(k1 _ 0 (by omega)).trans HC1.out.1, (k2 _ 0 (by omega)).trans HC1.out.2⟩, ⟨(k1 _ 0 (by omega)).trans HC2.out.1, (k2 _ 0 (by omega)).trans HC2.out.2⟩,
      ⟨by rw [List.map_nil, List.sum_nil, Nat.add_zero]; exact (m1 _ 0 (by omega)).trans Hy5.out.1, (m2 _ 0 (by omega)).trans Hy5.out.2⟩, .inl rfl, .inr (.inl rfl), .inr (.inr (.inl rfl)), .inr (.inr (.inr rfl))⟩
  rw [hw8]
  have HB8 := Lib.hid (HB1.out.trans (hB18.mono (by omega)))
  have HI0 := Lib.hid hI0
  obtain ⟨bb, hbb⟩ : ∃ bb, w6.heap.size = bb := ⟨_, rfl⟩
  rw [hbb] at hs6 hs8 d1 d2 d3 ⊢
  clear hw8 hB8 hB18 hI0 hbb C5 C6 HC1 HC2 Hy5 HA HM HS HF c0
  refine wpIn_rangeTB (gf := 156) (lb := #[.pointer (some ⟨bb, 0, none⟩), .pointer (some ⟨bb + 1, 0, none⟩), .pointer (some ⟨bb + 2, 0, none⟩)]) rfl (enters_of Tryz.func156 (by kernel_rfl) rfl) (hit _ _ _) (fun _ => rfl)
    (fun b => b = w.heap.size ∨ b = w.heap.size + 1 ∨ b = w.heap.size + 2 ∨ b = yb) ?hfp ?hrs (fun k h => h.elim)
    (fun pre fq W => rmI w.heap.size yb x y0 pre fq W) (fun c pre fq W => rmX w.heap.size x y0 c pre fq W) ?hI ?hIx (fun _ _ _ _ => trivial) ?hPre HI0.out
    [(35, fun p : Nat × Nat => .agg #[.int .u64 (p.1 : Nat), .int .u64 (p.2 : Nat)])] 11 216 (fun p => #[.int .u64 (p.1 : Nat), .int .u64 (p.2 : Nat)]) ?assign ?body ?done ?stop
  case hfp =>
    intro b hb
    refine ⟨by omega, fun h => ?_⟩
    rcases h with h | h | h | h
    · omega
    · omega
    · omega
    · have := hfq b h; omega
  case hrs =>
    rintro b (h | h | h | h)
    · omega
    · omega
    · omega
    · have := hfq b h; omega
  case hI =>
    rintro pre fq A B ⟨h0, h1, h2, h3, h4, q0, q1, q2, q3⟩ hs
    exact ⟨h0, (hs.cell q0 0).trans h1, ⟨(hs.cell q1 0).trans h2.1, (hs.frozen q1 0).trans h2.2⟩, ⟨(hs.cell q2 0).trans h3.1, (hs.frozen q2 0).trans h3.2⟩, ⟨(hs.cell q3 0).trans h4.1, (hs.frozen q3 0).trans h4.2⟩, q0, q1, q2, q3⟩
  case hIx =>
    rintro c pre fq A B ⟨rfl, q1, q2, q, p, h3, h4, h5, h6, h7⟩ hs
    exact ⟨rfl, q1, q2, q, p, h3, h4, h5, (hs.cell q1 0).trans h6, (hs.cell q2 0).trans h7⟩
  case hPre =>
    intro W hb
    have hsz := hb.size
    exact ⟨((bcell hb).1 _ 0 (by omega)).trans d1, ((bcell hb).1 _ 0 (by omega)).trans d2, ((bcell hb).1 _ 0 (by omega)).trans d3, (Hrt.out.ext HB8.out).ext hb⟩
  case assign =>
    intro l0 p W K hK
    rw [show encP p = #[.agg #[.int .u64 (p.1 : Nat), .int .u64 (p.2 : Nat)]] from rfl]
    gi_wp2
    exact hK
  case body =>
    rintro l0 pre fq tp p W Wy q hq hl0 hr0 honly hokk - ho0 hnl hflt htp ⟨h0, h1, h2, h3, h4, q0, q1, q2, q3⟩ hsz
    simp only [List.foldl_cons, List.foldl_nil, List.setIfInBounds_toArray, List.set_cons_zero, List.set_cons_succ]
    have hqb := cell_of_row W q 0 _ _ _ hq
    have hqb1 := cell_of_row W q 1 _ _ _ hq
    simp only [List.getElem?_toArray, List.getElem?_cons_zero, List.getElem?_cons_succ] at hqb hqb1
    have hpb := Hpe.out p (hokk.subset (by simp))
    have hsb : (pre.map (·.2)).sum ≤ 2 * 2147483647 * 1000 := by
      obtain ⟨Z, hZ⟩ := hokk
      have := Hps.out
      rw [← hZ, List.map_append, List.sum_append, List.map_append, List.sum_append] at this
      omega
    have Hst := Lib.hid (fun h => Hstop.out pre p hokk h0 h)
    have H0 := Lib.hid h0
    have Hflt := Lib.hid hflt
    obtain ⟨y, hy⟩ : ∃ y, y0 + (pre.map (·.2)).sum = y := ⟨_, rfl⟩
    have hyb : y ≤ 1000 * 2147483647 + 2 * 2147483647 * 1000 := by omega
    have Hy := Lib.hid hy
    rw [hy] at h4
    clear hit hr0 honly hokk ho0 hnl hflt htp HI0 h0 hq hsb hy
    obtain ⟨p1, p2⟩ := p
    simp only at hqb hqb1 hpb
    obtain ⟨h2, f2⟩ := h2
    obtain ⟨h3, f3⟩ := h3
    obtain ⟨h4, f4⟩ := h4
    rw [show w.heap.size + 2 = w.heap.size + 1 + 1 from rfl] at h3 f3
    by_cases hx : x < p1 + p2
    · have hd : decide ((x : Int) < (p1 : Int) + (p2 : Int)) = true := by simp; omega
      have hd2 : decide (x < p1 + p2) = true := by simp; omega
      have hpx := (Hst.out hx).1
      simp only at hpx
      dsimp only
      gi_wp2_with fail
      refine ⟨fq, ⟨((Only.refl fq W).setCell (fun _ => q1) _).setCell (fun _ => q2) _, fun b hb => ⟨.inl hb, by simpa using Hflt.out b hb⟩⟩, rfl, q1, q2, pre, (p1, p2), rfl, H0.out, hx, ?_, ?_⟩
      · rw [Hy.out, show ((y + x - p1 : Nat) : Int) = (y : Int) + (x : Int) - (p1 : Int) by omega]
        simp [cell_set_ite, h2]
      · simp [cell_set_ite, h3]
    · have hd : decide ((x : Int) < (p1 : Int) + (p2 : Int)) = false := by simp; omega
      have hd2 : decide (x < p1 + p2) = false := by simp; omega
      dsimp only
      gi_wp2_with fail
      have hne0 : ¬ w.heap.size = yb := by omega
      have hne1 : ¬ w.heap.size + 1 = yb := by omega
      have hne2 : ¬ w.heap.size + 1 + 1 = yb := by omega
      refine ⟨fq, ⟨(Only.refl fq W).setCell (fun _ => q3) _, fun b hb => ⟨.inl hb, by simpa using Hflt.out b hb⟩⟩, fun z hz => ?_, ?_, ⟨?_, by rw [World.frozen?_setCell]; exact f2⟩, ⟨?_, by rw [World.frozen?_setCell]; exact f3⟩, ⟨?_, by rw [World.frozen?_setCell]; exact f4⟩, q0, q1, q2, q3⟩
      · rcases List.mem_append.1 hz with h | h
        · exact H0.out z h
        · rw [List.mem_singleton.1 h]; simp only; omega
      · simp [cell_set_ite, hne0, h1]
      · simp [cell_set_ite, hne1, h2]
      · simp [cell_set_ite, hne2, h3]
      · rw [List.map_append, List.sum_append, ← Nat.add_assoc, Hy.out]
        simp [cell_set_ite, h4]
  case done =>
    rintro D xs fq W hD hxs ⟨h0, -⟩ honly hfo hlt hnD hk2
    subst hxs
    exact (Hnone.out h0).elim
  case stop =>
    rintro D c xs fq W hD hokk ⟨rfl, q1, q2, pre, p, rfl, h0, hx, h6, h7⟩ honly hfo hlt hnD hk2
    have hbW : Below w.heap.size w W := HB8.out.trans (honly.below (by omega) (by rintro b hb (h | h) <;> first | omega | exact h))
    have hv := (Hstop.out pre p hokk h0 hx).2
    gi_wp2
    refine leaveM1 (v := .tuple #[.int .u64 (R : Nat), .bool true]) hk2 ?_ ⟨rfl, ext_put hbW (by omega)⟩
    rw [hv]
    have n1 : w.heap.size + 1 ≠ D := by omega
    have n2 : w.heap.size + 2 ≠ D := by omega
    rw [show w.heap.size + 2 = w.heap.size + 1 + 1 from rfl] at h7 n2
    simp [results, Tryz.results114, go_sem, n1, n2, h6, h7]
end Go.Proofs.YtcklfffeimnfeaaGreat

namespace Go.Proofs.YtcklfffeimnfeaaGreat
open Go.RowKit

def cmpN (a b : Nat) : Int := if a < b then -1 else if b < a then 1 else 0
theorem cmp32_any (a b : Nat) (w : World) : Calls Tryz.prog 81 #[.int .u32 (a : Nat), .int .u32 (b : Nat)] w fun e w' => e = .returned (.int .i64 (cmpN a b)) ∧ w' = w := by
  unfold cmpN
  by_cases h1 : a < b
  · rw [if_pos h1]
    have d1 : decide (a < b) = true := decide_eq_true h1
    have d1' : decide ((a : Int) < (b : Int)) = true := decide_eq_true (by omega)
    clear h1
    go_enter Tryz.func81, Tryz.ntmps81
    go_wp2_with (go_at_call 123; refine (isNaN32_any _ _).mono ?_; rintro e w' ⟨rfl, rfl⟩)
    go_ret
    exact ⟨rfl, rfl⟩
  · rw [if_neg h1]
    have d1 : decide (a < b) = false := decide_eq_false h1
    have d1' : decide ((a : Int) < (b : Int)) = false := decide_eq_false (by omega)
    by_cases h2 : b < a
    · rw [if_pos h2]
      have d2 : decide (b < a) = true := decide_eq_true h2
      have d2' : decide ((b : Int) < (a : Int)) = true := decide_eq_true (by omega)
      clear h1 h2
      go_enter Tryz.func81, Tryz.ntmps81
      go_wp2_with (go_at_call 123; refine (isNaN32_any _ _).mono ?_; rintro e w' ⟨rfl, rfl⟩)
      go_ret
      exact ⟨rfl, rfl⟩
    · rw [if_neg h2]
      have d2 : decide (b < a) = false := decide_eq_false h2
      have d2' : decide ((b : Int) < (a : Int)) = false := decide_eq_false (by omega)
      clear h1 h2
      go_enter Tryz.func81, Tryz.ntmps81
      go_wp2_with (go_at_call 123; refine (isNaN32_any _ _).mono ?_; rintro e w' ⟨rfl, rfl⟩)
      go_ret
      exact ⟨rfl, rfl⟩
end Go.Proofs.YtcklfffeimnfeaaGreat

namespace Go.Proofs.YtcklfffeimnfeaaGreat
open Go.RowKit

theorem find1_any (a0 a1 tv : Nat) (w : World) : Calls Tryz.prog 86 #[.agg #[.int .u32 (a0 : Nat), .int .u32 (a1 : Nat)], .int .u32 (tv : Nat)] w (RetB (.int .i64 (cmpN a0 tv)) w) := by
  have HC := Lib.hid (fun W => cmp32_any a0 tv W)
  generalize cmpN a0 tv = r at *
  go_enter Tryz.func86, Tryz.ntmps86
  go_wp2_with (go_at_call 81; refine (HC.out _).mono ?_; rintro e w' ⟨rfl, rfl⟩)
  go_ret
  exact ⟨rfl, ext_alloc _ _⟩
/-- the search's state: what lies below i is lower, what lies from j on isn't -/
def bsI (l : List ArcD) (tv : Nat) (w : World) (v9 v10 : Value) (wr : World) : Prop :=
  ∃ i j : Nat, i ≤ j ∧ j ≤ l.length ∧ v9 = .int .i64 (i : Nat) ∧ v10 = .int .i64 (j : Nat) ∧ (∀ k (h : k < l.length), k < i → l[k].1 < tv) ∧ (∀ k (h : k < l.length), j ≤ k → tv ≤ l[k].1) ∧ Below w.heap.size w wr
def FindRet (l : List ArcD) (tv : Nat) (w : World) (e : Ending) (w' : World) : Prop :=
  ∃ i : Nat, i ≤ l.length ∧ e = .returned (.tuple #[.int .i64 (i : Nat), .bool (nearM l tv)]) ∧ (nearM l tv = true → ∃ h : i < l.length, l[i].1 = tv) ∧ Below w.heap.size w w'
theorem near_at {l : List ArcD} {tv i : Nat} (hp : l.Pairwise (fun a b => a.1 < b.1)) (h1 : ∀ k (h : k < l.length), k < i → l[k].1 < tv) (h2 : ∀ k (h : k < l.length), i ≤ k → tv ≤ l[k].1) :
    nearM l tv = (if h : i < l.length then (l[i].1 == tv) else false) := by
  unfold nearM
  rw [Bool.eq_iff_iff, List.any_eq_true]
  constructor
  · rintro ⟨a, ha, e⟩
    obtain ⟨k, hk, rfl⟩ := List.mem_iff_getElem.1 ha
    rw [beq_iff_eq] at e
    have hik : i ≤ k := by
      rcases Nat.lt_or_ge k i with h | h
      · have := h1 k hk h; omega
      · exact h
    have hi : i < l.length := by omega
    rw [dif_pos hi, beq_iff_eq]
    rcases Nat.lt_or_ge i k with h | h
    · have a1 := List.pairwise_iff_getElem.1 hp i k hi hk h
      have a2 := h2 i hi (Nat.le_refl _)
      omega
    · obtain rfl : i = k := by omega
      exact e
  · intro h
    split at h
    · rename_i hi
      exact ⟨l[i], List.getElem_mem hi, h⟩
    · cases h
theorem bs_up {l : List ArcD} {tv h : Nat} (hp : l.Pairwise (fun a b => a.1 < b.1)) (hh : h < l.length) (hc : l[h].1 < tv) : ∀ k (hk : k < l.length), k < h + 1 → l[k].1 < tv := fun k hk hkh => by
  rcases Nat.lt_or_ge k h with e | e
  · have := List.pairwise_iff_getElem.1 hp k h hk hh e; omega
  · obtain rfl : k = h := by omega
    exact hc
theorem bs_down {l : List ArcD} {tv h : Nat} (hp : l.Pairwise (fun a b => a.1 < b.1)) (hh : h < l.length) (hc : tv ≤ l[h].1) : ∀ k (hk : k < l.length), h ≤ k → tv ≤ l[k].1 := fun k hk hkh => by
  rcases Nat.lt_or_ge h k with e | e
  · have := List.pairwise_iff_getElem.1 hp h k hh hk e; omega
  · obtain rfl : k = h := by omega
    exact hc
theorem bsearch_any (l : List ArcD) (tv : Nat) (ao : Option Addr) (cap : Nat) (fp : Nat → Prop) (w : World) (hl : l.length ≤ 100000) (hp : l.Pairwise (fun a b => a.1 < b.1)) (hrd : RdS arcRep fp w ao l) :
    Calls Tryz.prog 85 #[.slice ao l.length cap, .int .u32 (tv : Nat), .func (.func 86) #[] #[]] w (FindRet l tv w) := by
  have Hp := Lib.hid hp
  have Hrd := Lib.hid hrd
  have HF := Lib.hid (fun a0 a1 W => find1_any a0 a1 tv W)
  clear hp hrd
  go_enter Tryz.func85, Tryz.ntmps85
  go_wp2_with fail
  go_loopw [9, 10] (fun v9 v10 wr => bsI l tv w v9 v10 wr) (fun v9 v10 _ => (intOf v10).toNat - (intOf v9).toNat)
  case atStart => exact ⟨0, l.length, by omega, Nat.le_refl _, rfl, rfl, fun k h hk => by omega, fun k h hk => by omega, Below.refl _ _⟩
  case round =>
    obtain ⟨i, j, hij, hj, rfl, rfl, hlo, hhi, hB⟩ := hrel
    rename World => wo
    have HB := Lib.hid hB
    have Hlo := Lib.hid hlo
    have Hhi := Lib.hid hhi
    have hbs := hB.size
    clear hB hlo hhi
    by_cases hlt : i < j
    · obtain ⟨h, hh⟩ : ∃ h, (i + j) / 2 = h := ⟨_, rfl⟩
      have hhl : h < l.length := by omega
      obtain ⟨b, off, rfl, hb, hc0', hc1', hok⟩ := Hrd.out.arc h hhl
      have hc0 := ((bcell HB.out).1 _ _ hb).trans hc0'
      have hc1 := ((bcell HB.out).1 _ _ hb).trans hc1'
      have hm1 : ((i : Int) + (j : Int)) / 2 = (h : Int) := by omega
      have d0 : decide (i < j) = true := decide_eq_true hlt
      have hir : (h : Int) < (l.length : Int) := by omega
      have hih : i ≤ h ∧ h < j := by omega
      clear hc0' hc1' hh
      obtain ⟨x, hx⟩ : ∃ x, l[h] = x := ⟨_, rfl⟩
      rw [hx] at hc0 hc1 hok
      have Hx := Lib.hid hx
      clear hx
      obtain ⟨x0, x1⟩ := x
      simp only at hc0 hc1
      by_cases hcx : x0 < tv
      · have hcm : cmpN x0 tv = -1 := by unfold cmpN; rw [if_pos hcx]
        have HFx := Lib.hid (fun W => HF.out x0 x1 W)
        rw [hcm] at HFx
        have HN := Lib.hid (bs_up Hp.out hhl (show l[h].1 < tv by rw [Hx.out]; exact hcx))
        clear hcm hcx
        go_wp2_with (go_at_call 86; (with_reducible refine (HFx.out _).mono ?_); rintro e w2 ⟨rfl, hB2⟩; have HB2 := Lib.hid hB2; clear hB2)
        go_roundw
        case rel => exact ⟨h + 1, j, by omega, hj, by go_num, rfl, HN.out, Hhi.out, HB.out.trans (HB2.out.mono hbs)⟩
        case measure => simp [intOf]; omega
      · have hcm : decide (cmpN x0 tv < 0) = false := decide_eq_false (by unfold cmpN; rw [if_neg hcx]; split <;> omega)
        have HFx := Lib.hid (fun W => HF.out x0 x1 W)
        have HN := Lib.hid (bs_down Hp.out hhl (show tv ≤ l[h].1 by rw [Hx.out]; exact Nat.le_of_not_lt hcx))
        generalize cmpN x0 tv = c at *
        clear hcx
        go_wp2_with (go_at_call 86; (with_reducible refine (HFx.out _).mono ?_); rintro e w2 ⟨rfl, hB2⟩; have HB2 := Lib.hid hB2; clear hB2)
        go_roundw
        case rel => exact ⟨i, h, by omega, by omega, rfl, rfl, Hlo.out, HN.out, HB.out.trans (HB2.out.mono hbs)⟩
        case measure => simp [intOf]; omega
    · obtain rfl : i = j := by omega
      have d0 : decide ((i : Int) < (i : Int)) = false := decide_eq_false (by omega)
      have d0' : decide (i < i) = false := decide_eq_false (by omega)
      have hN := near_at Hp.out Hlo.out Hhi.out
      by_cases hi : i < l.length
      · rw [dif_pos hi] at hN
        obtain ⟨b, off, rfl, hb, hc0', hc1', hok⟩ := Hrd.out.arc i hi
        have hc0 := ((bcell HB.out).1 _ _ hb).trans hc0'
        have hc1 := ((bcell HB.out).1 _ _ hb).trans hc1'
        have d1 : decide (i < l.length) = true := decide_eq_true hi
        have d1' : decide ((i : Int) < (l.length : Int)) = true := decide_eq_true (by omega)
        have hir : (i : Int) < (l.length : Int) := by omega
        have Hi := Lib.hid hi
        clear hc0' hc1'
        generalize hx : l[i]'hi = x at hc0 hc1 hok hN
        have Hx := Lib.hid hx
        clear hx
        obtain ⟨x0, x1⟩ := x
        simp only at hc0 hc1 hN
        have hcm : (cmpN x0 tv == 0) = (x0 == tv) := by
          unfold cmpN
          rw [Bool.eq_iff_iff]
          simp only [beq_iff_eq]
          split
          · omega
          · split <;> omega
        have HFx := Lib.hid (fun W => HF.out x0 x1 W)
        have HR := Lib.hid (show nearM l tv = true → ∃ h : i < l.length, l[i].1 = tv from fun e => ⟨Hi.out, by rw [Hx.out]; rw [hN] at e; exact beq_iff_eq.1 e⟩)
        have HN := Lib.hid hN
        have Hcm := Lib.hid hcm
        generalize cmpN x0 tv = c at *
        clear hN hcm
        go_wp2_with (go_at_call 86; (with_reducible refine (HFx.out _).mono ?_); rintro e w2 ⟨rfl, hB2⟩; have HB2 := Lib.hid hB2; clear hB2)
        go_ret2
        exact ⟨i, Nat.le_of_lt Hi.out, by rw [HN.out, ← Hcm.out]; rfl, HR.out, HB.out.trans (HB2.out.mono hbs)⟩
      · rw [dif_neg hi] at hN
        have d1 : decide (i < l.length) = false := decide_eq_false hi
        have d1' : decide ((i : Int) < (l.length : Int)) = false := decide_eq_false (by omega)
        have HN := Lib.hid hN
        clear hN hi
        go_wp2_with fail
        go_ret2
        exact ⟨i, hj, by rw [HN.out]; rfl, (fun e => by rw [HN.out] at e; cases e), HB.out⟩
theorem afind_any (l : List ArcD) (tv : Nat) (ao : Option Addr) (cap : Nat) (fp : Nat → Prop) (w : World) (hl : l.length ≤ 100000) (hp : l.Pairwise (fun a b => a.1 < b.1)) (hrd : RdS arcRep fp w ao l) :
    Calls Tryz.prog 45 #[.slice ao l.length cap, .int .u32 (tv : Nat)] w (FindRet l tv w) := by
  have HB := Lib.hid (bsearch_any l tv ao cap fp w hl hp hrd)
  clear hp hrd
  go_enter Tryz.func45, Tryz.ntmps45
  go_wp2_with (go_at_call 85; (with_reducible refine HB.out.mono ?_); rintro e w2 ⟨i, h1, rfl, h2, h3⟩; have H1 := Lib.hid h1; have H2 := Lib.hid h2; have H3 := Lib.hid h3; clear h1 h2 h3)
  go_ret2
  exact ⟨i, H1.out, rfl, H2.out, H3.out⟩
end Go.Proofs.YtcklfffeimnfeaaGreat


namespace Go.Proofs.YtcklfffeimnfeaaGreat
open Go.RowKit

/-- arcs that a call hands over, in memory of their own -/
def OwnArcs (l : List ArcD) (w : World) (e : Ending) (w' : World) : Prop :=
  ∃ a c g, e = .returned (.slice a l.length c) ∧ OwnS arcRep (fun _ => False) w' a c g 85 l ∧ (∀ k, g = some k → w.heap.size ≤ k) ∧ Below w.heap.size w w'
theorem arcs_nofp {w : World} {fp : Nat → Prop} {l : List ArcD} {css : List (List Value)} (h : All2 (fun x cs => arcRep.ok w fp x cs) l css) (w' : World) : All2 (fun x cs => arcRep.ok w' (fun _ => False) x cs) l css :=
  forall2_imp (fun x cs h => by obtain ⟨c, d, h1, h2, h3⟩ := h; exact ⟨c, d, h1, h2, h3⟩) h
theorem arcclone_any (l : List ArcD) (ao : Option Addr) (cap : Nat) (fp : Nat → Prop) (w : World) (hl : l.length ≤ 1073741824) (hrd : RdS arcRep fp w ao l) :
    Calls Tryz.prog 37 #[.slice ao l.length cap] w (OwnArcs l w) := by
  have hE := arcElem
  obtain ⟨css, hall, hsrc⟩ := RdS.srcAll oneArc (tx := 49) Tryz.underlying49 hrd
  have Hsrc := Lib.hid (hsrc _ (ext_alloc w (.cells #[] 85)) cap)
  have Hall := Lib.hid hall
  clear hsrc hall
  cases ao with
  | none =>
    have hl0 : l = [] := by rcases hrd with h | ⟨b, off, h, _⟩; exact h; cases h
    subst hl0
    have hnil : (binOp .eql 49 (.slice none 0 cap) (.slice none 0 0)).run Tryz.prog w = .ok (.bool true) w := Go.run_eql_slice_nil w _ _ _ _ _ Tryz.underlying49
    clear hrd
    go_enter Tryz.func37, Tryz.ntmps37
    go_wp2
    go_ret
    exact ⟨none, 0, none, rfl, OwnS.nil _ _ _ _, (fun k h => by cases h), Below.refl _ _⟩
  | some a =>
    have hnil : (binOp .eql 49 (.slice (some a) l.length cap) (.slice none 0 0)).run Tryz.prog w = .ok (.bool false) w := Go.run_eql_slice_nil w _ _ _ _ _ Tryz.underlying49
    clear hrd
    go_enter Tryz.func37, Tryz.ntmps37
    go_wp2_with (at_builtin; refine wpList_app rfl (.tmp 5) (.tmp 6) 49 49 rfl hE (Own.emptyAt w 85 2 w.heap.size rfl) rfl rfl Hsrc.out (by simp [maxLen]; omega) (by omega) ?_; intro ao4 cap4 g4 W4 ho4 hg4 hon4; obtain ⟨hG, hBB⟩ := app_blocksM (w := w) (W := w.alloc (.cells #[] 85)) (fun k h => by cases h; exact Nat.le_refl _) (ext_alloc w _) hg4 hon4; have Ho4 := Lib.hid ho4; clear ho4 hg4 hon4)
    go_ret
    exact ⟨ao4, cap4, g4, by simp, ⟨css, (by simpa using Ho4.out : Own W4 ao4 cap4 g4 85 2 l.length css.flatten), arcs_nofp Hall.out _⟩, hG, hBB⟩

/-- rows behind a graph's address; none: nil, no rows -/
def GraphIs (w : World) (fp : Nat → Prop) (p : Option Nat) (R : List RowD) : Prop := match p with
  | none => R = []
  | some g => fp g ∧ ∃ ra rc, w.heap[g]? = some (.cells #[.slice ra R.length rc] 75 (0, 0)) ∧ R.length ≤ rc ∧ rc ≤ maxLen ∧ RdS rowRep fp w ra R
def gV (p : Option Nat) : Value := .pointer (p.map fun g => ⟨g, 0, none⟩)
theorem GraphIs.keep {w w' : World} {fp : Nat → Prop} {p : Option Nat} {R : List RowD} (h : GraphIs w fp p R) (hk : ∀ b, fp b → b < w.heap.size → w'.heap[b]? = w.heap[b]?) (hs : w.heap.size ≤ w'.heap.size) : GraphIs w' fp p R := by
  cases p with
  | none => exact h
  | some g =>
    obtain ⟨h0, ra, rc, h1, h2, h3, h4⟩ := h
    exact ⟨h0, ra, rc, (hk g h0 (Array.getElem?_eq_some_iff.1 h1).1).trans h1, h2, h3, h4.keep hk hs⟩
theorem GraphIs.ext {w w' : World} {fp : Nat → Prop} {p : Option Nat} {R : List RowD} (h : GraphIs w fp p R) (hB : Below w.heap.size w w') : GraphIs w' fp p R := h.keep (fun b _ hl => hB.block b hl) hB.size
theorem GraphIs.only {w w' : World} {fp gp : Nat → Prop} {p : Option Nat} {R : List RowD} (h : GraphIs w fp p R) (ho : Only gp w w') (hn : ∀ b, fp b → b < w.heap.size → ¬ gp b) : GraphIs w' fp p R :=
  h.keep (fun b hb hl => ho.same b hl (hn b hb hl)) ho.size
theorem GraphIs.stays {w w' : World} {fp gp : Nat → Prop} {p : Option Nat} {R : List RowD} (h : GraphIs w fp p R) (hs : Stays gp w w') (hm : ∀ b, fp b → b < w.heap.size → gp b) : GraphIs w' fp p R :=
  h.keep (fun b hb hl => hs.same b (hm b hb hl)) hs.size
theorem GraphIs.mono {w : World} {fp fp' : Nat → Prop} {p : Option Nat} {R : List RowD} (h : GraphIs w fp p R) (hm : ∀ b, fp b → b < w.heap.size → fp' b) : GraphIs w fp' p R := by
  cases p with
  | none => exact h
  | some g =>
    obtain ⟨h0, ra, rc, h1, h2, h3, h4⟩ := h
    exact ⟨hm g h0 (Array.getElem?_eq_some_iff.1 h1).1, ra, rc, h1, h2, h3, h4.mono hm⟩
/-! ### find -/
theorem gfind1_any (a0 : Nat) (ra : Option Addr) (n rc : Nat) (tv : Nat) (w : World) : Calls Tryz.prog 80 #[.agg #[.int .u32 (a0 : Nat), .slice ra n rc], .int .u32 (tv : Nat)] w (RetB (.int .i64 (cmpN a0 tv)) w) := by
  have HC := Lib.hid (fun W => cmp32_any a0 tv W)
  generalize cmpN a0 tv = r at *
  go_enter Tryz.func80, Tryz.ntmps80
  go_wp2_with (go_at_call 81; refine (HC.out _).mono ?_; rintro e w' ⟨rfl, rfl⟩)
  go_ret
  exact ⟨rfl, ext_alloc _ _⟩
def rsI (l : List RowD) (tv : Nat) (w : World) (v9 v10 : Value) (wr : World) : Prop :=
  ∃ i j : Nat, i ≤ j ∧ j ≤ l.length ∧ v9 = .int .i64 (i : Nat) ∧ v10 = .int .i64 (j : Nat) ∧ (∀ k (h : k < l.length), k < i → l[k].1 < tv) ∧ (∀ k (h : k < l.length), j ≤ k → tv ≤ l[k].1) ∧ Below w.heap.size w wr
def thereM (l : List RowD) (tv : Nat) : Bool := l.any (fun r => r.1 == tv)
def FindRowRet (l : List RowD) (tv : Nat) (w : World) (e : Ending) (w' : World) : Prop :=
  ∃ i : Nat, i ≤ l.length ∧ e = .returned (.tuple #[.int .i64 (i : Nat), .bool (thereM l tv)]) ∧ (thereM l tv = true → ∃ h : i < l.length, l[i].1 = tv) ∧ Below w.heap.size w w'
theorem there_at {l : List RowD} {tv i : Nat} (hp : l.Pairwise (fun a b => a.1 < b.1)) (h1 : ∀ k (h : k < l.length), k < i → l[k].1 < tv) (h2 : ∀ k (h : k < l.length), i ≤ k → tv ≤ l[k].1) :
    thereM l tv = (if h : i < l.length then (l[i].1 == tv) else false) := by
  unfold thereM
  rw [Bool.eq_iff_iff, List.any_eq_true]
  constructor
  · rintro ⟨a, ha, e⟩
    obtain ⟨k, hk, rfl⟩ := List.mem_iff_getElem.1 ha
    rw [beq_iff_eq] at e
    have hik : i ≤ k := by
      rcases Nat.lt_or_ge k i with h | h
      · have := h1 k hk h; omega
      · exact h
    have hi : i < l.length := by omega
    rw [dif_pos hi, beq_iff_eq]
    rcases Nat.lt_or_ge i k with h | h
    · have a1 := List.pairwise_iff_getElem.1 hp i k hi hk h
      have a2 := h2 i hi (Nat.le_refl _)
      omega
    · obtain rfl : i = k := by omega
      exact e
  · intro h
    split at h
    · rename_i hi
      exact ⟨l[i], List.getElem_mem hi, h⟩
    · cases h
theorem rs_up {l : List RowD} {tv h : Nat} (hp : l.Pairwise (fun a b => a.1 < b.1)) (hh : h < l.length) (hc : l[h].1 < tv) : ∀ k (hk : k < l.length), k < h + 1 → l[k].1 < tv := fun k hk hkh => by
  rcases Nat.lt_or_ge k h with e | e
  · have := List.pairwise_iff_getElem.1 hp k h hk hh e; omega
  · obtain rfl : k = h := by omega
    exact hc
theorem rs_down {l : List RowD} {tv h : Nat} (hp : l.Pairwise (fun a b => a.1 < b.1)) (hh : h < l.length) (hc : tv ≤ l[h].1) : ∀ k (hk : k < l.length), h ≤ k → tv ≤ l[k].1 := fun k hk hkh => by
  rcases Nat.lt_or_ge h k with e | e
  · have := List.pairwise_iff_getElem.1 hp h k hh hk e; omega
  · obtain rfl : k = h := by omega
    exact hc
theorem arcs15_at {l : List RowD} (hp : l.Pairwise (fun a b => a.1 < b.1)) {i : Nat} (hi : i < l.length) : arcs15M l l[i].1 = l[i].2 := by
  have h : l.find? (fun r => r.1 == l[i].1) = some l[i] := by
    rw [List.find?_eq_some_iff_getElem]
    refine ⟨by simp, i, hi, rfl, fun j hj => ?_⟩
    have := List.pairwise_iff_getElem.1 hp j i (by omega) hi hj
    simp; omega
  simp only [arcs15M, h]
theorem arcs15_no {l : List RowD} {v : Nat} (h : thereM l v = false) : arcs15M l v = [] := by
  have h : l.find? (fun r => r.1 == v) = none := by
    rw [List.find?_eq_none]
    intro r hr e
    have : thereM l v = true := by unfold thereM; rw [List.any_eq_true]; exact ⟨r, hr, e⟩
    rw [h] at this; cases this
  simp only [arcs15M, h]
theorem rsearch_any (l : List RowD) (tv : Nat) (ao : Option Addr) (cap : Nat) (fp : Nat → Prop) (w : World) (hl : l.length ≤ 100000) (hp : l.Pairwise (fun a b => a.1 < b.1)) (hrd : RdS rowRep fp w ao l) :
    Calls Tryz.prog 79 #[.slice ao l.length cap, .int .u32 (tv : Nat), .func (.func 80) #[] #[]] w (FindRowRet l tv w) := by
  have Hp := Lib.hid hp
  have Hrd := Lib.hid hrd
  have HF := Lib.hid (fun a0 ra n rc W => gfind1_any a0 ra n rc tv W)
  clear hp hrd
  go_enter Tryz.func79, Tryz.ntmps79
  go_wp2_with fail
  go_loopw [9, 10] (fun v9 v10 wr => rsI l tv w v9 v10 wr) (fun v9 v10 _ => (intOf v10).toNat - (intOf v9).toNat)
  case atStart => exact ⟨0, l.length, by omega, Nat.le_refl _, rfl, rfl, fun k h hk => by omega, fun k h hk => by omega, Below.refl _ _⟩
  case round =>
    obtain ⟨i, j, hij, hj, rfl, rfl, hlo, hhi, hB⟩ := hrel
    rename World => wo
    have HB := Lib.hid hB
    have Hlo := Lib.hid hlo
    have Hhi := Lib.hid hhi
    have hbs := hB.size
    clear hB hlo hhi
    by_cases hlt : i < j
    · obtain ⟨h, hh⟩ : ∃ h, (i + j) / 2 = h := ⟨_, rfl⟩
      have hhl : h < l.length := by omega
      obtain ⟨b, off, ra, rc, rfl, hb, hc0', hc1', hok, _, _, _⟩ := Hrd.out.row h hhl
      have hc0 := ((bcell HB.out).1 _ _ hb).trans hc0'
      have hc1 := ((bcell HB.out).1 _ _ hb).trans hc1'
      have hm1 : ((i : Int) + (j : Int)) / 2 = (h : Int) := by omega
      have d0 : decide (i < j) = true := decide_eq_true hlt
      have hir : (h : Int) < (l.length : Int) := by omega
      have hih : i ≤ h ∧ h < j := by omega
      clear hc0' hc1' hh
      obtain ⟨x, hx⟩ : ∃ x, l[h] = x := ⟨_, rfl⟩
      rw [hx] at hc0 hc1 hok
      have Hx := Lib.hid hx
      clear hx
      obtain ⟨x0, x1⟩ := x
      simp only at hc0 hc1
      generalize x1.length = xn at hc1
      by_cases hcx : x0 < tv
      · have hcm : cmpN x0 tv = -1 := by unfold cmpN; rw [if_pos hcx]
        have HFx := Lib.hid (fun W => HF.out x0 ra xn rc W)
        rw [hcm] at HFx
        have HN := Lib.hid (rs_up Hp.out hhl (show l[h].1 < tv by rw [Hx.out]; exact hcx))
        clear hcm hcx
        go_wp2_with (go_at_call 80; (with_reducible refine (HFx.out _).mono ?_); rintro e w2 ⟨rfl, hB2⟩; have HB2 := Lib.hid hB2; clear hB2)
        go_roundw
        case rel => exact ⟨h + 1, j, by omega, hj, by go_num, rfl, HN.out, Hhi.out, HB.out.trans (HB2.out.mono hbs)⟩
        case measure => simp [intOf]; omega
      · have hcm : decide (cmpN x0 tv < 0) = false := decide_eq_false (by unfold cmpN; rw [if_neg hcx]; split <;> omega)
        have HFx := Lib.hid (fun W => HF.out x0 ra xn rc W)
        have HN := Lib.hid (rs_down Hp.out hhl (show tv ≤ l[h].1 by rw [Hx.out]; exact Nat.le_of_not_lt hcx))
        generalize cmpN x0 tv = c at *
        clear hcx
        go_wp2_with (go_at_call 80; (with_reducible refine (HFx.out _).mono ?_); rintro e w2 ⟨rfl, hB2⟩; have HB2 := Lib.hid hB2; clear hB2)
        go_roundw
        case rel => exact ⟨i, h, by omega, by omega, rfl, rfl, Hlo.out, HN.out, HB.out.trans (HB2.out.mono hbs)⟩
        case measure => simp [intOf]; omega
    · obtain rfl : i = j := by omega
      have d0 : decide ((i : Int) < (i : Int)) = false := decide_eq_false (by omega)
      have d0' : decide (i < i) = false := decide_eq_false (by omega)
      have hN := there_at Hp.out Hlo.out Hhi.out
      by_cases hi : i < l.length
      · rw [dif_pos hi] at hN
        obtain ⟨b, off, ra, rc, rfl, hb, hc0', hc1', hok, _, _, _⟩ := Hrd.out.row i hi
        have hc0 := ((bcell HB.out).1 _ _ hb).trans hc0'
        have hc1 := ((bcell HB.out).1 _ _ hb).trans hc1'
        have d1 : decide (i < l.length) = true := decide_eq_true hi
        have d1' : decide ((i : Int) < (l.length : Int)) = true := decide_eq_true (by omega)
        have hir : (i : Int) < (l.length : Int) := by omega
        have Hi := Lib.hid hi
        clear hc0' hc1'
        generalize hx : l[i]'hi = x at hc0 hc1 hok hN
        have Hx := Lib.hid hx
        clear hx
        obtain ⟨x0, x1⟩ := x
        simp only at hc0 hc1 hN
        generalize x1.length = xn at hc1
        have hcm : (cmpN x0 tv == 0) = (x0 == tv) := by
          unfold cmpN
          rw [Bool.eq_iff_iff]
          simp only [beq_iff_eq]
          split
          · omega
          · split <;> omega
        have HFx := Lib.hid (fun W => HF.out x0 ra xn rc W)
        have HR := Lib.hid (show thereM l tv = true → ∃ h : i < l.length, l[i].1 = tv from fun e => ⟨Hi.out, by rw [Hx.out]; rw [hN] at e; exact beq_iff_eq.1 e⟩)
        have HN := Lib.hid hN
        have Hcm := Lib.hid hcm
        generalize cmpN x0 tv = c at *
        clear hN hcm
        go_wp2_with (go_at_call 80; (with_reducible refine (HFx.out _).mono ?_); rintro e w2 ⟨rfl, hB2⟩; have HB2 := Lib.hid hB2; clear hB2)
        go_ret2
        exact ⟨i, Nat.le_of_lt Hi.out, by rw [HN.out, ← Hcm.out]; rfl, HR.out, HB.out.trans (HB2.out.mono hbs)⟩
      · rw [dif_neg hi] at hN
        have d1 : decide (i < l.length) = false := decide_eq_false hi
        have d1' : decide ((i : Int) < (l.length : Int)) = false := decide_eq_false (by omega)
        have HN := Lib.hid hN
        clear hN hi
        go_wp2_with fail
        go_ret2
        exact ⟨i, hj, by rw [HN.out]; rfl, (fun e => by rw [HN.out] at e; cases e), HB.out⟩

/-- a vertex's arcs, where the graph has them -/
def ArcsIn (l : List ArcD) (fp : Nat → Prop) (w : World) (e : Ending) (w' : World) : Prop :=
  ∃ a c, e = .returned (.slice a l.length c) ∧ l.length ≤ c ∧ c ≤ maxLen ∧ RdS arcRep fp w' a l ∧ Below w.heap.size w w'
theorem gfind_any (p : Option Nat) (R : List RowD) (v : Nat) (fp : Nat → Prop) (w : World) (hl : R.length ≤ 100000) (hp : R.Pairwise (fun a b => a.1 < b.1)) (hg : GraphIs w fp p R) :
    Calls Tryz.prog 38 #[gV p, .int .u32 (v : Nat)] w (ArcsIn (arcs15M R v) fp w) := by
  cases p with
  | none =>
    obtain rfl : R = [] := hg
    show Calls Tryz.prog 38 #[.pointer none, .int .u32 (v : Nat)] w _
    go_enter Tryz.func38, Tryz.ntmps38
    go_wp2
    go_ret
    exact ⟨none, 0, rfl, Nat.le_refl _, by simp [maxLen], .inl rfl, Below.refl _ _⟩
  | some g =>
    obtain ⟨_, ra, rc, h1, h2, h3, hrd⟩ := hg
    have hgl := (Array.getElem?_eq_some_iff.1 h1).1
    have hc' : w.cell? ⟨g, 0, none⟩ = some (.slice ra R.length rc) := cell_of_row w g 0 _ _ (0, 0) h1
    have HB := Lib.hid (rsearch_any R v ra rc fp w hl hp hrd)
    have Hp := Lib.hid hp
    have Hrd := Lib.hid hrd
    clear h1 h2 h3 hp hrd
    show Calls Tryz.prog 38 #[.pointer (some ⟨g, 0, none⟩), .int .u32 (v : Nat)] w _
    cases ht : thereM R v with
    | false =>
      rw [arcs15_no ht]
      unfold FindRowRet at HB
      rw [ht] at HB
      clear ht
      go_enter Tryz.func38, Tryz.ntmps38
      go_wp2_with (go_at_call 79; (with_reducible refine HB.out.mono ?_); rintro e w2 ⟨i, h1, rfl, h2, h3⟩; have H3 := Lib.hid h3; clear h1 h2 h3)
      go_ret
      exact ⟨none, 0, rfl, Nat.le_refl _, by simp [maxLen], .inl rfl, H3.out⟩
    | true =>
      unfold FindRowRet at HB
      rw [ht] at HB
      clear ht
      go_enter Tryz.func38, Tryz.ntmps38
      go_upto_region 4 with (go_at_call 79; (with_reducible refine HB.out.mono ?_); rintro e w2 ⟨i, h1, rfl, h2, h3⟩; have H2 := Lib.hid (h2 rfl); have H3 := Lib.hid h3; clear h1 h2 h3)
      obtain ⟨hi, hv⟩ := H2.out
      obtain ⟨b, off, qa, qc, rfl, hb, _, hc1', _, q1, q2, q3⟩ := Hrd.out.row i hi
      have hc1 := ((bcell H3.out).1 _ _ hb).trans hc1'
      have hc := ((bcell H3.out).1 _ 0 hgl).trans hc'
      have hir : (i : Int) < (R.length : Int) := by omega
      have HQ := Lib.hid (q3.ext H3.out)
      have he := arcs15_at Hp.out hi
      rw [hv] at he
      rw [← he] at HQ q1 hc1
      have hq1 := q1
      clear hc' hc1' q3 hv he H2 q1
      go_wp2_with fail
      go_ret
      exact ⟨qa, qc, rfl, hq1, q2, HQ.out, H3.out⟩
theorem arcs15_mem {R : List RowD} {v : Nat} : arcs15M R v = [] ∨ ∃ r ∈ R, r.1 = v ∧ arcs15M R v = r.2 := by
  unfold arcs15M
  cases h : R.find? (fun r => r.1 == v) with
  | none => exact .inl rfl
  | some r => exact .inr ⟨r, List.mem_of_find?_eq_some h, by have := List.find?_some h; simpa using this, rfl⟩
theorem garcs_any (p : Option Nat) (R : List RowD) (v : Nat) (fp : Nat → Prop) (w : World) (hl : R.length ≤ 100000) (ha : ∀ r ∈ R, r.2.length ≤ 100000) (hp : R.Pairwise (fun a b => a.1 < b.1)) (hg : GraphIs w fp p R) :
    Calls Tryz.prog 19 #[gV p, .int .u32 (v : Nat)] w (OwnArcs (arcs15M R v) w) := by
  have HF := Lib.hid (gfind_any p R v fp w hl hp hg)
  have hal : (arcs15M R v).length ≤ 100000 := by
    rcases arcs15_mem (R := R) (v := v) with h | ⟨r, hr, _, h⟩
    · rw [h]; simp
    · rw [h]; exact ha r hr
  generalize arcs15M R v = l at *
  generalize gV p = pv at *
  have HC := Lib.hid (fun a c W h => arcclone_any l a c fp W (by omega) h)
  clear hp hg ha
  go_enter Tryz.func19, Tryz.ntmps19
  go_wp2_with (first
    | (go_at_call 38; (with_reducible refine HF.out.mono ?_); rintro e w2 ⟨a, c, rfl, _, _, h3, h4⟩; have H3 := Lib.hid h3; have H4 := Lib.hid h4; clear h3 h4)
    | (go_at_call 37; (with_reducible refine (HC.out _ _ _ H3.out).mono ?_); rintro e w3 ⟨a2, c2, g2, rfl, h5, h6, h7⟩; have H5 := Lib.hid h5; have H6 := Lib.hid h6; have H7 := Lib.hid h7; clear h5 h6 h7))
  go_ret
  have hs := H4.out.size
  exact ⟨a2, c2, g2, rfl, H5.out, fun k hk => Nat.le_trans hs (H6.out k hk), H4.out.trans (H7.out.mono hs)⟩
theorem gnear_any (p : Option Nat) (R : List RowD) (v tv : Nat) (fp : Nat → Prop) (w : World) (hl : R.length ≤ 100000) (ha : ∀ r ∈ R, r.2.length ≤ 100000 ∧ r.2.Pairwise (fun a b => a.1 < b.1)) (hp : R.Pairwise (fun a b => a.1 < b.1)) (hg : GraphIs w fp p R) :
    Calls Tryz.prog 116 #[gV p, .int .u32 (v : Nat), .int .u32 (tv : Nat)] w (RetB (.bool (near15M R v tv)) w) := by
  have HF := Lib.hid (gfind_any p R v fp w hl hp hg)
  have hal : (arcs15M R v).length ≤ 100000 ∧ (arcs15M R v).Pairwise (fun a b => a.1 < b.1) := by
    rcases arcs15_mem (R := R) (v := v) with h | ⟨r, hr, _, h⟩
    · rw [h]; simp
    · rw [h]; exact ha r hr
  unfold near15M
  generalize arcs15M R v = l at *
  generalize gV p = pv at *
  have HC := Lib.hid (fun a c W h => afind_any l tv a c fp W hal.1 hal.2 h)
  clear hp hg ha hal
  go_enter Tryz.func116, Tryz.ntmps116
  go_wp2_with (first
    | (go_at_call 38; (with_reducible refine HF.out.mono ?_); rintro e w2 ⟨a, c, rfl, _, _, h3, h4⟩; have H3 := Lib.hid h3; have H4 := Lib.hid h4; clear h3 h4)
    | (go_at_call 45; (with_reducible refine (HC.out _ _ _ H3.out).mono ?_); rintro e w3 ⟨i, _, rfl, _, h5⟩; have H5 := Lib.hid h5; clear h5))
  go_ret
  exact ⟨rfl, H4.out.trans (H5.out.mono H4.out.size)⟩
end Go.Proofs.YtcklfffeimnfeaaGreat
