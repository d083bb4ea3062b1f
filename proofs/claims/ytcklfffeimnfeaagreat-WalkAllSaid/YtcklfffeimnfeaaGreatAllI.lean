/- walk.All: an iterator over all walks. -/
import Derived.Test.YtcklfffeimnfeaaGreatBx21
import Derived.Test.YtcklfffeimnfeaaGreatBx22
import Derived.Test.YtcklfffeimnfeaaGreatBx09
set_option maxRecDepth 100000
set_option maxHeartbeats 12800000
set_option linter.unusedSimpArgs false
set_option linter.unusedVariables false
namespace Go.Proofs.YtcklfffeimnfeaaGreat
open Go.RowKit

abbrev AllG := (Nat × List Nat) × (Option Addr × Nat)
def encA (x : AllG) : Array Value := #[.int .u32 (x.1.1 : Nat), .slice x.2.1 x.1.2.length x.2.2]
/-- how a walk is told: in memory of its own -/
def toldA (tp : Nat → Prop) (x : AllG) (W : World) : Prop := ∃ g, Own W x.2.1 x.2.2 g 24 1 x.1.2.length (u32s x.1.2) ∧ (∀ k, tp k ↔ g = some k)
def allP (R : List RowD) (j : JobD) : List (Nat × List Nat) := (List.range (walkersJ j)).map (fun i => (i, pathW R j i))
theorem allP_len (R : List RowD) (j : JobD) : (allP R j).length = walkersJ j := by simp [allP]
theorem allP_at {R : List RowD} {j : JobD} {k : Nat} (h : k < walkersJ j) : (allP R j)[k]? = some (k, pathW R j k) := by simp [allP, h]
/-- the block of a job's sources -/
def sfp (so : Option Addr) (n k : Nat) : Prop := 0 < n ∧ ∃ off, so = some ⟨k, off, none⟩
structure AllW (bj bg : Nat) (p : Option Nat) (R : List RowD) (gfp : Nat → Prop) (j : JobD) (so : Option Addr) (sc : Nat) (W : World) : Prop where
  job : W.heap[bj]? = some (.cells (jobCs j so sc) 29 (0, 0))
  gr : W.cell? ⟨bg, 0, none⟩ = some (gV p)
  is : GraphIs W gfp p R
  src : Rd W so j.src.length (u32s j.src)
  glt : ∀ k, gfp k → k < W.heap.size
def allF (bj bg : Nat) (gfp : Nat → Prop) (so : Option Addr) (n k : Nat) : Prop := k = bj ∨ k = bg ∨ gfp k ∨ sfp so n k
theorem AllW.only {bj bg : Nat} {p : Option Nat} {R : List RowD} {gfp fp : Nat → Prop} {j : JobD} {so : Option Addr} {sc : Nat} {W W' : World} (h : AllW bj bg p R gfp j so sc W) (ho : Only fp W W') (hn : ∀ k, allF bj bg gfp so j.src.length k → ¬ fp k) : AllW bj bg p R gfp j so sc W' :=
  ⟨(ho.same bj (Array.getElem?_eq_some_iff.1 h.job).1 (hn bj (.inl rfl))).trans h.job, (ho.cell (block_lt_of_cell h.gr) (hn bg (.inr (.inl rfl))) 0).trans h.gr,
    h.is.only ho (fun b hb _ => hn b (.inr (.inr (.inl hb)))), h.src.only ho (fun h0 k off e => hn k (.inr (.inr (.inr ⟨h0, off, e⟩)))), fun k hk => Nat.lt_of_lt_of_le (h.glt k hk) ho.size⟩
def allRel (R : List RowD) (j : JobD) (J : List AllG → (Nat → Prop) → World → Prop) (fp : Nat → Prop) (W : World) (i : Value) (wr : World) : Prop :=
  ∃ (pre : List AllG) (fp1 : Nat → Prop) (k : Nat), i = .int .u32 k ∧ k ≤ walkersJ j ∧ pre.map (·.1) = (allP R j).take k ∧ J pre fp1 wr ∧ Only (fun k => fp k ∨ False) W wr ∧ (∀ k, fp1 k → (fp k ∨ W.heap.size ≤ k) ∧ k < wr.heap.size)
section
variable {F : Fence} {n : Nat} {P : Program} {ops : Array Oper} {rest : List Oper} {o : Oper} {a : Act} {w : World} {Q : Exit → Act → World → Prop}
theorem wpListIn_load_row22 (hgd : o.guard = none) (ty : TypeId) (x : Operand) (ho : o.op = .load ty x)
    (g : Nat) (hx : a.eval x = .pointer (some ⟨g, 0, none⟩)) (t : TypeId) (cs : Array Value) (fr : Nat × Nat) (d : TypeDesc) (hg : w.heap[g]? = some (.cells cs t fr))
    (hu : P.underlying ty = some d) (hd : (match d with | .struct _ | .array _ _ => true | _ => false) = true) (hi : (P.info? ty).map (·.size) = some cs.size)
    (h : wpListIn F n P ops Q rest (a.put o.dst (.agg cs)) w) : wpListIn F n P ops Q (o :: rest) a w := by
  refine wpListIn_plain hgd fun K hK => ⟨fun f hf => ?_, ?_⟩
  · simp [Oper.about, ho] at hf
  · have hs : (o.semAt F.round a.eval).run P w = .ok (.value (.agg cs)) w := by
      rw [Oper.semAt_eq _ _ _ (fun c h => by rw [ho] at h; cases h)]
      unfold execOp
      simp only [ho, hx, Instr.loadAt, Instr.sureAddr, Sem.run_bind, Sem.run_pure, Result.andThen_ok, run_loadVar_row w g t ty cs fr d hg hu hd hi]
    rw [hs, Oper.uponIn_value]
    exact hK _ _ h
end
attribute [local go_sem] Oper.semAt_some
theorem all_iter (bj bg : Nat) (p : Option Nat) (R : List RowD) (gfp : Nat → Prop) (hR : okG R) (hl : R.length ≤ 1000) (ha : ∀ r ∈ R, r.2.length ≤ 1000) (j : JobD) (hj : JobOk j) (so : Option Addr) (sc : Nat) (hsl : j.src.length ≤ 1000000) (hwk : walkersJ j ≤ 60) :
    IterT Tryz.prog 41 #[.pointer (some ⟨bj, 0, none⟩), .pointer (some ⟨bg, 0, none⟩)] encA (fun pre => pre.map (·.1) <+: allP R j) (fun xs => xs.map (·.1) = allP R j) (fun _ => True)
      (fun pre x tp W => toldA tp x W ∧ (allP R j)[pre.length]? = some x.1)
      (AllW bj bg p R gfp j so sc) (allF bj bg gfp so j.src.length) (fun _ => False) := by
  rintro ly J Jx fp W hAW hfp hJ hJx _ hY h0
  have HJ := Lib.hid hJ
  have HJx := Lib.hid hJx
  have HY := Lib.hid hY
  have H0 : Hid (allRel R j J fp W (.int .u32 0) W) := ⟨[], fp, 0, rfl, by omega, by simp, h0, Only.refl _ _, fun k hk => ⟨.inl hk, (hfp k hk).1⟩⟩
  have Hfp := Lib.hid hfp
  have HAW := Lib.hid hAW
  have HIj := Lib.hid (jb_info2 j so sc)
  have HW := Lib.hid (fun (W' : World) (h : AllW bj bg p R gfp j so sc W') => (show Calls Tryz.prog 42 #[.agg (jobCs j so sc)] W' (RetB (.int .u32 (walkersJ j : Nat)) W') from jwalkers_any j hj so sc W' hsl h.src))
  have HP := Lib.hid (fun (id : Nat) (hid : id < 4294967296) (W' : World) (h : AllW bj bg p R gfp j so sc W') => path_any p R gfp W' hR hl ha h.is h.glt j hj so sc id hid hsl h.src)
  have HRow := Lib.hid (fun (W' : World) (h : AllW bj bg p R gfp j so sc W') => h.job)
  obtain ⟨jc, hjc⟩ : ∃ jc, jobCs j so sc = jc := ⟨_, rfl⟩
  rw [hjc] at HIj HW HP HRow
  clear hJ hJx hY h0 hfp hAW hjc
  refine callsIn_of_wp Tryz.func41 rfl trivial ?_
  simp only [Tryz.ntmps41, List.size_toArray, List.length_cons, List.length_nil, Nat.reduceAdd, Nat.reduceSub, Array.replicate_succ, Array.replicate_zero, List.push_toArray, List.append_toArray, List.nil_append, List.cons_append]
  gi_wp2_with (first
    | (refine wpListIn_load_row22 rfl _ _ rfl bj rfl 29 jc (0, 0) _ (HRow.out W HAW.out) Tryz.underlying29 rfl HIj.out ?_)
    | (gi_at_call 42; refine (callsIn_wide.2 (HW.out W HAW.out)).mono ?_; rintro e w2 ⟨rfl, hB⟩; have E2 := Lib.hid hB; clear hB))
  gi_loopw [7] (fun i wr => allRel R j J fp W i wr) (fun i _ => walkersJ j - (intOf i).toNat)
  case atStart =>
    obtain ⟨pre, fp1, k, h1, h2, h3, h4, h5, h6⟩ := H0.out
    have h4' := J_ext HJ.out h4 (fun k hk => (h6 k hk).2) E2.out
    exact ⟨pre, fp1, k, h1, h2, h3, h4', h5.trans (Only.of_below (fp := fun _ => False) E2.out) (fun i _ h => h.elim), fun k hk => ⟨(h6 k hk).1, Nat.lt_of_lt_of_le (h6 k hk).2 E2.out.size⟩⟩
  case round =>
    obtain ⟨pre, fp1, k, rfl, hk, hpre, hj1, hon, hfo⟩ := hrel
    have hpl : pre.length = k := by
      have := congrArg List.length hpre
      rw [List.length_map, List.length_take, allP_len, Nat.min_eq_left hk] at this
      exact this
    have HAr := Lib.hid (HAW.out.only hon (fun k hk h => h.elim (fun h => (Hfp.out k h).2 hk) id))
    have Hj1 := Lib.hid hj1
    have Hon := Lib.hid hon
    have Hfo := Lib.hid hfo
    have Hpre := Lib.hid hpre
    have Hpl := Lib.hid hpl
    have cg : wr.cell? ⟨bg, 0, none⟩ = some (gV p) := HAr.out.gr
    clear hj1 hon hfo hpre hpl
    by_cases hlt : k < walkersJ j
    · have d : decide ((k : Int) < (walkersJ j : Int)) = true := decide_eq_true (by omega)
      have d' : decide (k < walkersJ j) = true := decide_eq_true hlt
      have HPk := Lib.hid (HP.out k (by omega) wr HAr.out)
      have Hat := Lib.hid (allP_at (R := R) hlt)
      have Htk := Lib.hid (show (allP R j).take (k + 1) = (allP R j).take k ++ [(k, pathW R j k)] by rw [List.take_add_one, allP_at hlt]; rfl)
      obtain ⟨pk, hpk⟩ : ∃ pk, pathW R j k = pk := ⟨_, rfl⟩
      rw [hpk] at HPk Hat Htk
      clear hpk
      gi_wp2_with (first
        | (refine wpListIn_load_row22 rfl _ _ rfl bj rfl 29 jc (0, 0) _ (HRow.out wr HAr.out) Tryz.underlying29 rfl HIj.out ?_)
        | (gi_at_call 16; refine (callsIn_wide.2 HPk.out).mono ?_; rintro e w2 ⟨a, c, gg, rfl, h1, h2, h3⟩; obtain ⟨fn, tmps, assign, body, hy, hR⟩ := HY.out pre fp1 (fun k => gg = some k) ((k, pk), (a, c)) w2 (J_ext HJ.out Hj1.out (fun k hk => (Hfo.out k hk).2) h3) (fun k hk => Nat.lt_of_lt_of_le (Hfo.out k hk).2 h3.size) (fun k hk => ⟨Nat.le_trans Hon.out.size (h2 k hk), h1.lt k hk, fun hf => by have := (Hfo.out k hf).2; have := h2 k hk; omega⟩) (Hon.out.trans (Only.of_below (fp := fun _ => False) h3) (fun i _ h => h.elim)) (by rw [List.map_append, Hpre.out]; show (allP R j).take k ++ [(k, pk)] <+: allP R j; rw [← Htk.out]; exact List.take_prefix _ _) ⟨⟨gg, h1, fun k => Iff.rfl⟩, by rw [Hpl.out]; exact Hat.out⟩; simp only [encA] at hy; have HR2 := Lib.hid hR; have H2 := Lib.hid h2; have H3 := Lib.hid h3; clear hR h1 h2 h3))
      refine HR2.out.mono ?_
      clear hy HR2
      rintro e W2 ⟨fp2, hfw2, hor⟩
      have hon2 : Only (fun k => fp k ∨ False) W W2 := (Hon.out.trans (Only.of_below (fp := fun _ => False) H3.out) (fun i _ h => h.elim)).trans hfw2.only (fun i hi h => ((Hfo.out i h).1.elim (fun h => .inl h) (fun h => by omega)))
      have hfo2 : ∀ k, fp2 k → (fp k ∨ W.heap.size ≤ k) ∧ k < W2.heap.size := fun k hk => by
        refine ⟨?_, (hfw2.own k hk).2⟩
        rcases (hfw2.own k hk).1 with h | h | h
        · exact (Hfo.out k h).1
        · exact .inr (Nat.le_trans Hon.out.size (H2.out k h))
        · exact .inr (Nat.le_trans (Nat.le_trans Hon.out.size H3.out.size) h)
      have Hon2 := Lib.hid hon2
      have Hfo2 := Lib.hid hfo2
      clear hfw2 hon2 hfo2
      rcases hor with ⟨rfl, hj2⟩ | ⟨rfl, hjx2⟩
      · have Hj2 := Lib.hid hj2
        clear hj2
        gi_wp2_with fail
        go_roundw
        case rel =>
          exact ⟨pre ++ [((k, pk), (a, c))], fp2, k + 1, by go_num, by omega, by rw [List.map_append, Hpre.out, Htk.out]; rfl, Hj2.out, Hon2.out, Hfo2.out⟩
        case measure => simp [intOf]; omega
      · have Hjx2 := Lib.hid hjx2
        clear hjx2
        gi_wp2_with fail
        refine bodyPost_ret (results_none rfl _ _ _) rfl ?_
        exact IterEnd.mk (pre ++ [((k, pk), (a, c))]) fp2 Hon2.out Hfo2.out (.inr ⟨by rw [List.map_append, Hpre.out]; show (allP R j).take k ++ [(k, pk)] <+: allP R j; rw [← Htk.out]; exact List.take_prefix _ _, Hjx2.out⟩)
    · obtain rfl : k = walkersJ j := by omega
      have d : decide ((walkersJ j : Int) < (walkersJ j : Int)) = false := by simp
      have d' : decide (walkersJ j < walkersJ j) = false := by simp
      gi_wp2_with fail
      go_end0
      exact IterEnd.mk pre fp1 Hon.out Hfo.out (.inl ⟨by rw [Hpre.out, ← allP_len R j, List.take_length], Hj1.out⟩)
theorem all_any (v : Option Addr) (jv : Array Value) (w : World) :
    Calls Tryz.prog 21 #[.pointer v, .agg jv] w fun e w' => e = .returned (.func (.func 41) #[] #[.pointer (some ⟨w.heap.size + 1, 0, none⟩), .pointer (some ⟨w.heap.size, 0, none⟩)]) ∧ w' = (w.alloc (.cells #[.pointer v] 35)).alloc (.cells jv 29) := by
  have hmf : ∀ (fn : Fn) (first cap : Array Value) (w : World), (Instr.makeFunc fn first cap).run Tryz.prog w = .ok (.func fn first cap) w := fun _ _ _ _ => rfl
  go_enter Tryz.func21, Tryz.ntmps21
  go_wp2
  go_ret
  exact ⟨rfl, rfl⟩
end Go.Proofs.YtcklfffeimnfeaaGreat
