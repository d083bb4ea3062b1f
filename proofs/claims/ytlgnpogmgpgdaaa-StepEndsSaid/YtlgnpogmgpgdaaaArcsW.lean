/- StepArcs: the walk. -/
import Derived.Test.YtlgnpogmgpgdaaaBdBuild
import Derived.Test.YtlgnpogmgpgdaaaKeepsW
import Derived.Deep.RegionHeld
namespace Go.Proofs.Ytlgnpogmgpgdaaa
set_option linter.unusedSimpArgs false
set_option linter.unusedVariables false
set_option maxRecDepth 100000
open Go.RowKit

section
variable {P : Program} {ops : Array Oper} {S : World → Prop} {Q : Exit → Act → World → Prop}
theorem yieldsIf_row21 {o : Oper} {a : Act} (hw : Region.wanted o (yielded ops a.tmps) = true) (ty : TypeId) (x : Operand) (ho : o.op = .load ty x) (g : Nat) (hx : a.eval x = .pointer (some ⟨g, 0, none⟩)) (t : TypeId) (cs : Array Value) (fr : Nat × Nat) (d : TypeDesc)
    (hS : ∀ w, S w → w.heap[g]? = some (.cells cs t fr)) (hu : P.underlying ty = some d) (hd : (match d with | .struct _ | .array _ _ => true | _ => false) = true) (hi : (P.info? ty).map (·.size) = some cs.size) : YieldsIf P ops S o (.agg cs) a := by
  refine Or.inl ⟨hw, fun w hs => ?_⟩
  unfold execOp
  simp only [ho, hx, Instr.loadAt, Instr.sureAddr, Sem.run_bind, Sem.run_pure, Result.andThen_ok, run_loadVar_row w g t ty cs fr d (hS w hs) hu hd hi]
theorem wp_store_row21 {op : Oper} {a : Act} {w : World} {K : Act → World → Prop} (ty : TypeId) (x y : Operand) (ho : op.op = .store ty x y) {b : Nat} {cells cur : Array Value} {t : TypeId} (hx : a.eval x = .pointer (some ⟨b, 0, none⟩)) (hy : a.eval y = .agg cells)
    (hb : w.heap[b]? = some (.cells cur t (0, 0))) (hs : cells.size = cur.size) (hi : (P.info? ty).map (·.size) = some cells.size) (h1 : cells.all (·.oneCell') = true)
    (hK : ∀ w', w'.heap[b]? = some (.cells cells t (0, 0)) → Only (fun k => k = b) w w' → K (a.put op.dst undef) w') : op.wp P a w K Q := by
  refine wp_store_mid ty x y ho b 0 cells hx hy (fun j hj => ?_) hi h1 (hK _ ?_ (only_setCells b _ 0 w))
  · rw [Nat.zero_add]
    refine ⟨?_, frozen_of_row w b j cur t hb⟩
    rw [cell_of_row w b j cur t (0, 0) hb]
    simp; omega
  · have := heap_setCells_in b t (0, 0) cells.toList 0 w cur hb
    rwa [setsAt_all cur cells hs] at this
end
def WMQ (b : Nat) (jc wc : Array Value) (w' : World) : Prop := w'.heap[b]? = some (.cells jc 28 (0, 0)) ∧ w'.heap[b + 1]? = some (.cells wc 30 (0, 0))
theorem WMQ.keep {b : Nat} {jc wc : Array Value} {w w' : World} (h : WMQ b jc wc w) (hB : Below w.heap.size w w') : WMQ b jc wc w' :=
  ⟨(hB.block b (Array.getElem?_eq_some_iff.1 h.1).1).trans h.1, (hB.block (b + 1) (Array.getElem?_eq_some_iff.1 h.2).1).trans h.2⟩
theorem WMQ.only {b g : Nat} {jc wc : Array Value} {w w' : World} (h : WMQ b jc wc w) (hO : Only (fun k => k = g) w w') (hg : b + 2 ≤ g) : WMQ b jc wc w' :=
  ⟨(hO.same b (Array.getElem?_eq_some_iff.1 h.1).1 (by omega)).trans h.1, (hO.same (b + 1) (Array.getElem?_eq_some_iff.1 h.2).1 (by omega)).trans h.2⟩
def FixedOk (j : JobD) (x : WkD) (l : List ArcD) (r : WkD × Nat) : Prop :=
  (x.step = j.length ∨ l = [] → r = (x, 0)) ∧ (¬ (x.step = j.length ∨ l = []) → r.2 = 2 ∧ ∃ i, ∃ h : i < l.length, l[i].1 = r.1.at_)
def alongB (l : List ArcD) (k a : Nat) : Bool := (l.take k).any fun c => c.1 == a
theorem alongB_succ (l : List ArcD) (k a : Nat) (h : k < l.length) : alongB l (k + 1) a = (alongB l k a || l[k].1 == a) := by
  unfold alongB
  rw [List.take_succ_eq_append_getElem h, List.any_append]
  simp
theorem alongB_all {l : List ArcD} {a : Nat} (h : ∃ i, ∃ h : i < l.length, l[i].1 = a) : alongB l l.length a = true := by
  obtain ⟨i, hi, e⟩ := h
  unfold alongB
  rw [List.take_length, List.any_eq_true]
  exact ⟨l[i], List.getElem_mem hi, by simp [e]⟩
/-- what a fixed walk's Move leaves -/
def ArcsRet (j : JobD) (x : WkD) (l : List ArcD) (w : World) (e : Ending) (w' : World) : Prop :=
  ∃ (r : WkD × Nat) (yc : Array Value), Hid (yc = wkCs r.1) ∧ FixedOk j x l r ∧ e = .returned (.tuple #[.agg yc, .int .u8 (r.2 : Nat)]) ∧ Below w.heap.size w w'
theorem arcs_move {j : JobD} (hj : JobOk j) {so : Option Addr} {sc : Nat} {x : WkD} (hx : WkOk x) {l : List ArcD} {ao : Option Addr} {ca : Nat} {fp : Nat → Prop} {w : World} (h1 : l.length ≤ 100) (h2 : j.src.length ≤ 300) (hm : mayW j x = true) (ha : mayA l = true) (hk : j.kind = 0)
    (hsrc : Rd w so j.src.length (u32s j.src)) (hrd : RdS arcRep fp w ao l) (W : World) (hB : Below w.heap.size w W) (T : List CellD) (bo : Option Addr) (cb : Nat) (fq : Nat → Prop) (hT : T.length = l.length) (hc : ∀ c ∈ T, c.2 < l.length) (hrt : RdS cellRep fq W bo T) :
    Calls Try.prog 14 #[.agg (jobCs j so sc), .agg (wkCs x), .slice ao l.length ca, .slice bo l.length cb] W (ArcsRet j x l W) := by
  have h := move_any j hj so sc x hx l T ao bo ca cb fp fq W (by omega) (by omega) (by omega) (hsrc.ext hB) (hrd.ext hB) hrt
  rw [hT] at h
  refine h.mono fun e w' he => ?_
  exact ⟨moveM j x l T, _, Lib.hid rfl, move_fixed hm ha hk hT hc, he.1, he.2⟩
def arcsI (l : List ArcD) (a : Nat) (w : World) (v9 v10 : Value) (wr : World) : Prop := ∃ k : Nat, k ≤ l.length ∧ v10 = .int .i64 (k : Nat) ∧ v9 = .bool (alongB l k a) ∧ Below w.heap.size w wr
/-- the cut behind the move -/
def ArcsCut (j : JobD) (x : WkD) (l : List ArcD) (b : Nat) (jc wc : Array Value) (w : World) (v7 v8 : Value) (wx : World) : Prop :=
  ∃ (r : WkD × Nat) (g : Nat), v8 = .int .u8 (r.2 : Nat) ∧ v7 = .pointer (some ⟨g, 0, none⟩) ∧ FixedOk j x l r ∧ wx.heap[g]? = some (.cells (wkCs r.1) 30 (0, 0)) ∧ WMQ b jc wc wx ∧ Below w.heap.size w wx

set_option maxRecDepth 100000 in
set_option maxHeartbeats 6400000 in
theorem arcs_walk (j : JobD) (hj : JobOk j) (so : Option Addr) (sc : Nat) (x : WkD) (hx : WkOk x) (l : List ArcD) (ao : Option Addr) (ca : Nat) (fp : Nat → Prop) (w : World)
    (hsrc : Rd w so j.src.length (u32s j.src)) (hrd : RdS arcRep fp w ao l) :
    Calls Try.prog 4 #[.agg (jobCs j so sc), .agg (wkCs x), .slice ao l.length ca] w (RetB (.bool true) w) := by
  have HA := Lib.hid awake21_any
  obtain ⟨W2, hW2⟩ : ∃ W2, W2 = (w.alloc (.cells (jobCs j so sc) 28)).alloc (.cells (wkCs x) 30) := ⟨_, rfl⟩
  have hz2 : w.heap.size + 2 ≤ W2.heap.size := by rw [hW2]; simp
  have HB2 := Lib.hid (show Below w.heap.size w W2 by rw [hW2]; exact (ext_alloc w _).alloc (by simp) _)
  have HS2 := Lib.hid (show WMQ w.heap.size (jobCs j so sc) (wkCs x) W2 by rw [hW2]; exact ⟨heap_alloc2_old _ _ _, heap_alloc2_new _ _ _⟩)
  have HG := Lib.hid (fun W => great_any j so sc l.length 0 ao none ca 0 W)
  have HIj := Lib.hid (jb_info j so sc)
  have HIw := Lib.hid (wk_info x)
  have HC := Lib.hid (fun W (h : WMQ w.heap.size (jobCs j so sc) (wkCs x) W) => (show W.cell? ⟨w.heap.size, 0, none⟩ = some (.int .u8 (j.kind : Nat)) ∧ W.cell? ⟨w.heap.size, 2, none⟩ = some (.int .u32 (j.length : Nat)) ∧ W.cell? ⟨w.heap.size + 1, 1, none⟩ = some (.int .u32 (x.step : Nat)) from
    ⟨cell_of_row W _ 0 _ _ (0, 0) h.1, cell_of_row W _ 2 _ _ (0, 0) h.1, (wk_cells h.2).2.1⟩))
  cases hg : greatB j.src.length l.length 0 with
  | true =>
    rw [hg] at HG
    clear hg hsrc hrd
    go_enter Try.func4, Try.ntmps4
    go_upto_region 1 with fail
    rw [← hW2]
    clear hW2
    generalize jobCs j so sc = jc at *
    generalize wkCs x = wc at *
    go_wp2_with (first
      | (refine wpList_load_row rfl _ _ rfl w.heap.size rfl 28 jc (0, 0) _ HS2.out.1 Try.underlying28 rfl HIj.out ?_)
      | (refine wpList_load_rowg rfl _ _ rfl w.heap.size rfl 28 jc (0, 0) _ S4.out.1 Try.underlying28 rfl HIj.out ?_)
      | (refine wpList_load_rowg rfl _ _ rfl (w.heap.size + 1) rfl 30 wc (0, 0) _ S4.out.2 Try.underlying30 rfl HIw.out ?_)
      | (go_at_call 12; (with_reducible refine (HG.out _).mono ?_); rintro e w3 ⟨rfl, hB⟩; have S3 := Lib.hid (HS2.out.keep hB); have B3 := Lib.hid (HB2.out.trans (hB.mono (by omega))); clear hB)
      | (go_at_call 16; (with_reducible refine (HM.out _ B3.out).mono ?_); rintro e w4 ⟨rfl, hB⟩; have S4 := Lib.hid (S3.out.keep hB); have B4 := Lib.hid (B3.out.trans (hB.mono B3.out.size)); clear hB)
      | (go_at_call 15; (with_reducible refine (HR.out _ B4.out).mono ?_); rintro e w5 ⟨rfl, hB⟩; have S5 := Lib.hid (S4.out.keep hB); have B5 := Lib.hid (B4.out.trans (hB.mono B4.out.size)); have ck := (HC0.out _ S5.out); clear hB)
      | (go_at_call 13; (with_reducible refine (HA.out _).mono ?_); rintro e w9 ⟨rfl, hB⟩; have B9 := Lib.hid (B3.out.trans (hB.mono B3.out.size)); clear hB))
    go_ret
    exact ⟨rfl, B9.out⟩
  | false =>
  obtain ⟨g1, g2, _⟩ := great_no hg
  rw [hg] at HG
  have HM := Lib.hid (fun W (h : Below w.heap.size w W) => rmay04_any l ao ca fp W (by omega) (hrd.ext h))
  have HR := Lib.hid (fun W (h : Below w.heap.size w W) => rmayw_any j hj so sc x hx W (by omega) (hsrc.ext h))
  cases hma : mayA l with
  | false =>
    rw [hma] at HM
    clear hg hsrc hrd hma
    go_enter Try.func4, Try.ntmps4
    go_upto_region 1 with fail
    rw [← hW2]
    clear hW2
    generalize jobCs j so sc = jc at *
    generalize wkCs x = wc at *
    go_wp2_with (first
      | (refine wpList_load_row rfl _ _ rfl w.heap.size rfl 28 jc (0, 0) _ HS2.out.1 Try.underlying28 rfl HIj.out ?_)
      | (refine wpList_load_rowg rfl _ _ rfl w.heap.size rfl 28 jc (0, 0) _ S4.out.1 Try.underlying28 rfl HIj.out ?_)
      | (refine wpList_load_rowg rfl _ _ rfl (w.heap.size + 1) rfl 30 wc (0, 0) _ S4.out.2 Try.underlying30 rfl HIw.out ?_)
      | (go_at_call 12; (with_reducible refine (HG.out _).mono ?_); rintro e w3 ⟨rfl, hB⟩; have S3 := Lib.hid (HS2.out.keep hB); have B3 := Lib.hid (HB2.out.trans (hB.mono (by omega))); clear hB)
      | (go_at_call 16; (with_reducible refine (HM.out _ B3.out).mono ?_); rintro e w4 ⟨rfl, hB⟩; have S4 := Lib.hid (S3.out.keep hB); have B4 := Lib.hid (B3.out.trans (hB.mono B3.out.size)); clear hB)
      | (go_at_call 15; (with_reducible refine (HR.out _ B4.out).mono ?_); rintro e w5 ⟨rfl, hB⟩; have S5 := Lib.hid (S4.out.keep hB); have B5 := Lib.hid (B4.out.trans (hB.mono B4.out.size)); have ck := (HC0.out _ S5.out); clear hB)
      | (go_at_call 13; (with_reducible refine (HA.out _).mono ?_); rintro e w9 ⟨rfl, hB⟩; have B9 := Lib.hid (B4.out.trans (hB.mono B4.out.size)); clear hB))
    go_ret
    exact ⟨rfl, B9.out⟩
  | true =>
  rw [hma] at HM
  cases hmw : mayW j x with
  | false =>
    rw [hmw] at HR
    have HC0 := HC
    clear hg hsrc hrd hma hmw
    go_enter Try.func4, Try.ntmps4
    go_upto_region 1 with fail
    rw [← hW2]
    clear hW2
    generalize jobCs j so sc = jc at *
    generalize wkCs x = wc at *
    go_wp2_with (first
      | (refine wpList_load_row rfl _ _ rfl w.heap.size rfl 28 jc (0, 0) _ HS2.out.1 Try.underlying28 rfl HIj.out ?_)
      | (refine wpList_load_rowg rfl _ _ rfl w.heap.size rfl 28 jc (0, 0) _ S4.out.1 Try.underlying28 rfl HIj.out ?_)
      | (refine wpList_load_rowg rfl _ _ rfl (w.heap.size + 1) rfl 30 wc (0, 0) _ S4.out.2 Try.underlying30 rfl HIw.out ?_)
      | (go_at_call 12; (with_reducible refine (HG.out _).mono ?_); rintro e w3 ⟨rfl, hB⟩; have S3 := Lib.hid (HS2.out.keep hB); have B3 := Lib.hid (HB2.out.trans (hB.mono (by omega))); clear hB)
      | (go_at_call 16; (with_reducible refine (HM.out _ B3.out).mono ?_); rintro e w4 ⟨rfl, hB⟩; have S4 := Lib.hid (S3.out.keep hB); have B4 := Lib.hid (B3.out.trans (hB.mono B3.out.size)); clear hB)
      | (go_at_call 15; (with_reducible refine (HR.out _ B4.out).mono ?_); rintro e w5 ⟨rfl, hB⟩; have S5 := Lib.hid (S4.out.keep hB); have B5 := Lib.hid (B4.out.trans (hB.mono B4.out.size)); have ck := (HC0.out _ S5.out); clear hB)
      | (go_at_call 13; (with_reducible refine (HA.out _).mono ?_); rintro e w9 ⟨rfl, hB⟩; have B9 := Lib.hid (B5.out.trans (hB.mono B5.out.size)); clear hB))
    go_ret
    exact ⟨rfl, B9.out⟩
  | true =>
  rw [hmw] at HR
  by_cases hk : j.kind = 0
  · have HBd := Lib.hid (fun W (h : Below w.heap.size w W) => build_any l ao ca fp W (by omega) (hrd.ext h))
    have HMv := Lib.hid (arcs_move hj (so := so) (sc := sc) hx (ao := ao) (ca := ca) g2 g1 hmw hma hk hsrc hrd)
    have HC0 := Lib.hid (fun (W : World) (h : WMQ w.heap.size (jobCs j so sc) (wkCs x) W) => (show W.cell? ⟨w.heap.size, 0, none⟩ = some (.int .u8 0) from by have h0 := (HC.out W h).1; rw [hk] at h0; exact h0))
    clear hg hsrc hma hmw g1
    go_enter Try.func4, Try.ntmps4
    go_upto_region 1 with fail
    rw [← hW2]
    clear hW2
    generalize jobCs j so sc = jc at *
    generalize hwc : wkCs x = wc at *
    have Hwc := Lib.hid hwc
    clear hwc
    go_upto_region 3 with (first
      | (refine wpList_load_row rfl _ _ rfl w.heap.size rfl 28 jc (0, 0) _ HS2.out.1 Try.underlying28 rfl HIj.out ?_)
      | (refine wpList_load_rowg rfl _ _ rfl w.heap.size rfl 28 jc (0, 0) _ S4.out.1 Try.underlying28 rfl HIj.out ?_)
      | (refine wpList_load_rowg rfl _ _ rfl (w.heap.size + 1) rfl 30 wc (0, 0) _ S4.out.2 Try.underlying30 rfl HIw.out ?_)
      | (go_at_call 12; (with_reducible refine (HG.out _).mono ?_); rintro e w3 ⟨rfl, hB⟩; have S3 := Lib.hid (HS2.out.keep hB); have B3 := Lib.hid (HB2.out.trans (hB.mono (by omega))); clear hB)
      | (go_at_call 16; (with_reducible refine (HM.out _ B3.out).mono ?_); rintro e w4 ⟨rfl, hB⟩; have S4 := Lib.hid (S3.out.keep hB); have B4 := Lib.hid (B3.out.trans (hB.mono B3.out.size)); clear hB)
      | (go_at_call 15; (with_reducible refine (HR.out _ B4.out).mono ?_); rintro e w5 ⟨rfl, hB⟩; have S5 := Lib.hid (S4.out.keep hB); have B5 := Lib.hid (B4.out.trans (hB.mono B4.out.size)); have ck := (HC0.out _ S5.out); clear hB)
      | fail "no arm")
    go_cut [7, 8] (fun v7 v8 wx => ArcsCut j x l w.heap.size jc wc w v7 v8 wx)
    case first =>
      refine wp_region_held (S := WMQ w.heap.size jc wc) (by kernel_rfl) ?_
      have hS0 := S5.out.keep (ext_drew w5)
      have B6 := Lib.hid (B5.out.trans ((ext_drew w5).mono B5.out.size))
      change wpAnyH _ _ _ _ _ _ _ _ (World.drew _)
      generalize World.drew w5 = w6 at hS0 B6 ⊢
      refine wpAnyH_take (i := 0) (oi := ⟨some 32, _, _, _, _, _⟩) (v := .agg jc) rfl (by kernel_rfl) (by kernel_rfl) (by kernel_rfl) (fun _ _ _ h => h) (yieldsIf_row21 rfl _ _ rfl w.heap.size rfl 28 jc (0, 0) _ (fun _ h => h.1) Try.underlying28 rfl HIj.out) hS0 ?_
      simp only [Act.put, List.setIfInBounds_toArray, List.set_cons_zero, List.set_cons_succ]
      refine wpAnyH_take (i := 1) (oi := ⟨some 33, _, _, _, _, _⟩) (v := .agg wc) rfl (by kernel_rfl) (by kernel_rfl) (by kernel_rfl) (fun _ _ _ h => h) (yieldsIf_row21 rfl _ _ rfl (w.heap.size + 1) rfl 30 wc (0, 0) _ (fun _ h => h.2) Try.underlying30 rfl HIw.out) hS0 ?_
      simp only [Act.put, List.setIfInBounds_toArray, List.set_cons_zero, List.set_cons_succ]
      refine wpAnyH_take (i := 2) (oi := ⟨some 34, _, _, _, _, _⟩) (v := ?_) rfl (by kernel_rfl) (by kernel_rfl) (by kernel_rfl) (fun _ _ _ h => h) (Or.inl ⟨by rfl, ?_⟩) hS0 ?_
      rotate_left
      · (intro w' hSw; clear hSw; go_simp; try (with_reducible rfl))
      simp only [Act.put, List.setIfInBounds_toArray, List.set_cons_zero, List.set_cons_succ]
      refine wpAnyH_take (i := 3) (oi := ⟨some 35, _, _, _, _, _⟩) (v := ?_) rfl (by kernel_rfl) (by kernel_rfl) (by kernel_rfl) (fun _ _ _ h => h) (Or.inl ⟨by rfl, ?_⟩) hS0 ?_
      rotate_left
      · (intro w' hSw; clear hSw; go_simp; try (with_reducible rfl))
      simp only [Act.put, List.setIfInBounds_toArray, List.set_cons_zero, List.set_cons_succ]
      refine wpAnyH_all (rs := [4, 9]) (by kernel_rfl) (by simp) ?_
      intro i hi
      simp only [List.mem_cons, List.not_mem_nil, or_false] at hi
      rcases hi with rfl | rfl
      · refine wpOp_runW (o := ⟨some 36, _, _, _, _, _⟩) rfl rfl fun K' hK => ?_
        go_simp
        refine (HBd.out _ B6.out).mono ?_
        rintro e w7 ⟨T, bo, cb, rfl, hT, hc, _, _, hRT, hB⟩
        have hS1 := hS0.keep hB
        have B7 := Lib.hid (B6.out.trans (hB.mono B6.out.size))
        have E7 := Lib.hid hB
        clear hB hS0
        have hS0 := hS1
        clear hS1
        refine hK _ _ ⟨hS0, ?_⟩
        clear hK K'
        try simp only [Act.put, List.setIfInBounds_toArray, List.set_cons_zero, List.set_cons_succ]
        refine wpAnyH_all (rs := [5, 9]) (by kernel_rfl) (by simp) ?_
        intro i hi
        simp only [List.mem_cons, List.not_mem_nil, or_false] at hi
        rcases hi with rfl | rfl
        · refine wpOp_runW (o := ⟨some 37, _, _, _, _, _⟩) rfl rfl fun K' hK => ?_
          go_simp
          refine (HMv.out _ B7.out T bo cb _ hT hc hRT).mono ?_
          rintro e w8 ⟨r, yc, HY, hr, rfl, hB⟩
          have Hr := Lib.hid hr
          clear hr
          have hS1 := hS0.keep hB
          have B8 := Lib.hid (B7.out.trans (hB.mono B7.out.size))
          have E8 := Lib.hid hB
          clear hB hS0
          have hS0 := hS1
          clear hS1
          refine hK _ _ ⟨hS0, ?_⟩
          clear hK K'
          try simp only [Act.put, List.setIfInBounds_toArray, List.set_cons_zero, List.set_cons_succ]
          refine wpAnyH_take (i := 6) (oi := ⟨some 31, _, _, _, _, _⟩) (v := ?_) rfl (by kernel_rfl) (by kernel_rfl) (by kernel_rfl) (fun _ _ _ h => h) (Or.inl ⟨by rfl, ?_⟩) hS0 ?_
          rotate_left
          · (intro w' hSw; clear hSw; go_simp; try (with_reducible rfl))
          simp only [Act.put, List.setIfInBounds_toArray, List.set_cons_zero, List.set_cons_succ]
          refine wpAnyH_take (i := 7) (oi := ⟨some 38, _, _, _, _, _⟩) (v := ?_) rfl (by kernel_rfl) (by kernel_rfl) (by kernel_rfl) (fun _ _ _ h => h) (Or.inl ⟨by rfl, ?_⟩) hS0 ?_
          rotate_left
          · (intro w' hSw; clear hSw; go_simp; try (with_reducible rfl))
          simp only [Act.put, List.setIfInBounds_toArray, List.set_cons_zero, List.set_cons_succ]
          refine wpAnyH_take (i := 8) (oi := ⟨some 39, _, _, _, _, _⟩) (v := ?_) rfl (by kernel_rfl) (by kernel_rfl) (by kernel_rfl) (fun _ _ _ h => h) (Or.inl ⟨by rfl, ?_⟩) hS0 ?_
          rotate_left
          · (intro w' hSw; clear hSw; go_simp; try (with_reducible rfl))
          simp only [Act.put, List.setIfInBounds_toArray, List.set_cons_zero, List.set_cons_succ]
          refine wpAnyH_all (rs := [9]) (by kernel_rfl) (by simp) ?_
          intro i hi
          rw [List.mem_singleton] at hi
          subst hi
          refine wpOp_runW (o := ⟨some 7, _, _, _, _, _⟩) rfl rfl fun K' hK => ?_
          go_simp
          obtain ⟨w9, hw9⟩ : ∃ w', w8.alloc (.cells #[.int .u32 0, .int .u32 0, .int .u32 0, .int .u32 0, .int .u32 0, .int .u32 0, .int .u32 0] 30) = w' := ⟨_, rfl⟩
          rw [hw9]
          have hB : Below w8.heap.size w8 w9 := by rw [← hw9]; exact ext_alloc _ _
          have G9 := Lib.hid (show w9.heap[w8.heap.size]? = some (.cells #[.int .u32 0, .int .u32 0, .int .u32 0, .int .u32 0, .int .u32 0, .int .u32 0, .int .u32 0] 30 (0, 0)) by rw [← hw9]; exact heap_alloc_new _ _)
          have Hg := Lib.hid (show w.heap.size + 2 ≤ w8.heap.size from (Array.getElem?_eq_some_iff.1 hS0.2).1)
          clear hw9
          generalize w8.heap.size = g at G9 Hg ⊢
          have hS1 := hS0.keep hB
          have B9 := Lib.hid (B8.out.trans (hB.mono B8.out.size))
          have E9 := Lib.hid hB
          clear hB hS0
          have hS0 := hS1
          clear hS1
          refine hK _ _ ⟨hS0, ?_⟩
          clear hK K'
          try simp only [Act.put, List.setIfInBounds_toArray, List.set_cons_zero, List.set_cons_succ]
          refine wpAnyH_all (rs := [10]) (by kernel_rfl) (by simp) ?_
          intro i hi
          rw [List.mem_singleton] at hi
          subst hi
          refine wpOp_runW (o := ⟨none, _, _, _, _, _⟩) rfl rfl fun K' hK => ?_
          refine wp_store_row21 _ _ _ rfl (b := g) rfl rfl G9.out (by rw [HY.out]; rfl) (by rw [HY.out]; exact wk_info _) (by rw [HY.out]; simp [wkCs, Value.oneCell']) ?_
          intro w10 hrow hO
          have Hrow := Lib.hid hrow
          have hg2 := Hg.out
          have hS1 := hS0.only hO hg2
          have B10 := Lib.hid (B9.out.trans (hO.below B9.out.size (fun k hk e => by omega)))
          clear hO hS0 hrow hg2
          have hS0 := hS1
          clear hS1
          refine hK _ _ ⟨hS0, ?_⟩
          clear hK K'
          try simp only [Act.put, List.setIfInBounds_toArray, List.set_cons_zero, List.set_cons_succ]
          refine wpAnyH_take (i := 11) (oi := ⟨some 8, _, _, _, _, _⟩) (v := ?_) rfl (by kernel_rfl) (by kernel_rfl) (by kernel_rfl) (fun _ _ _ h => h) (Or.inl ⟨by rfl, ?_⟩) hS0 ?_
          rotate_left
          · (intro w' hSw; clear hSw; go_simp; try (with_reducible rfl))
          simp only [Act.put, List.setIfInBounds_toArray, List.set_cons_zero, List.set_cons_succ]
          refine wpAnyH_done (by kernel_rfl) ?_ _
          go_wp2_with fail
          go_meet
          exact ⟨r, g, rfl, rfl, Hr.out, by rw [← HY.out]; exact Hrow.out, hS0, B10.out⟩
        · refine wpOp_runW (o := ⟨some 7, _, _, _, _, _⟩) rfl rfl fun K' hK => ?_
          go_simp
          obtain ⟨w8, hw8⟩ : ∃ w', w7.alloc (.cells #[.int .u32 0, .int .u32 0, .int .u32 0, .int .u32 0, .int .u32 0, .int .u32 0, .int .u32 0] 30) = w' := ⟨_, rfl⟩
          rw [hw8]
          have hB : Below w7.heap.size w7 w8 := by rw [← hw8]; exact ext_alloc _ _
          have G8 := Lib.hid (show w8.heap[w7.heap.size]? = some (.cells #[.int .u32 0, .int .u32 0, .int .u32 0, .int .u32 0, .int .u32 0, .int .u32 0, .int .u32 0] 30 (0, 0)) by rw [← hw8]; exact heap_alloc_new _ _)
          have Hg := Lib.hid (show w.heap.size + 2 ≤ w7.heap.size from (Array.getElem?_eq_some_iff.1 hS0.2).1)
          clear hw8
          generalize w7.heap.size = g at G8 Hg ⊢
          have hS1 := hS0.keep hB
          have B8 := Lib.hid (B7.out.trans (hB.mono B7.out.size))
          have E8 := Lib.hid hB
          clear hB hS0
          have hS0 := hS1
          clear hS1
          refine hK _ _ ⟨hS0, ?_⟩
          clear hK K'
          try simp only [Act.put, List.setIfInBounds_toArray, List.set_cons_zero, List.set_cons_succ]
          refine wpAnyH_all (rs := [5]) (by kernel_rfl) (by simp) ?_
          intro i hi
          rw [List.mem_singleton] at hi
          subst hi
          refine wpOp_runW (o := ⟨some 37, _, _, _, _, _⟩) rfl rfl fun K' hK => ?_
          go_simp
          refine (HMv.out _ B8.out T bo cb _ hT hc (hRT.ext E8.out)).mono ?_
          rintro e w9 ⟨r, yc, HY, hr, rfl, hB⟩
          have Hr := Lib.hid hr
          clear hr
          have hS1 := hS0.keep hB
          have B9 := Lib.hid (B8.out.trans (hB.mono B8.out.size))
          have E9 := Lib.hid hB
          clear hB hS0
          have hS0 := hS1
          clear hS1
          refine hK _ _ ⟨hS0, ?_⟩
          clear hK K'
          try simp only [Act.put, List.setIfInBounds_toArray, List.set_cons_zero, List.set_cons_succ]
          have G9 := Lib.hid ((E9.out.block _ (Array.getElem?_eq_some_iff.1 G8.out).1).trans G8.out)
          refine wpAnyH_take (i := 6) (oi := ⟨some 31, _, _, _, _, _⟩) (v := ?_) rfl (by kernel_rfl) (by kernel_rfl) (by kernel_rfl) (fun _ _ _ h => h) (Or.inl ⟨by rfl, ?_⟩) hS0 ?_
          rotate_left
          · (intro w' hSw; clear hSw; go_simp; try (with_reducible rfl))
          simp only [Act.put, List.setIfInBounds_toArray, List.set_cons_zero, List.set_cons_succ]
          refine wpAnyH_take (i := 7) (oi := ⟨some 38, _, _, _, _, _⟩) (v := ?_) rfl (by kernel_rfl) (by kernel_rfl) (by kernel_rfl) (fun _ _ _ h => h) (Or.inl ⟨by rfl, ?_⟩) hS0 ?_
          rotate_left
          · (intro w' hSw; clear hSw; go_simp; try (with_reducible rfl))
          simp only [Act.put, List.setIfInBounds_toArray, List.set_cons_zero, List.set_cons_succ]
          refine wpAnyH_take (i := 8) (oi := ⟨some 39, _, _, _, _, _⟩) (v := ?_) rfl (by kernel_rfl) (by kernel_rfl) (by kernel_rfl) (fun _ _ _ h => h) (Or.inl ⟨by rfl, ?_⟩) hS0 ?_
          rotate_left
          · (intro w' hSw; clear hSw; go_simp; try (with_reducible rfl))
          simp only [Act.put, List.setIfInBounds_toArray, List.set_cons_zero, List.set_cons_succ]
          refine wpAnyH_all (rs := [10]) (by kernel_rfl) (by simp) ?_
          intro i hi
          rw [List.mem_singleton] at hi
          subst hi
          refine wpOp_runW (o := ⟨none, _, _, _, _, _⟩) rfl rfl fun K' hK => ?_
          refine wp_store_row21 _ _ _ rfl (b := g) rfl rfl G9.out (by rw [HY.out]; rfl) (by rw [HY.out]; exact wk_info _) (by rw [HY.out]; simp [wkCs, Value.oneCell']) ?_
          intro w10 hrow hO
          have Hrow := Lib.hid hrow
          have hg2 := Hg.out
          have hS1 := hS0.only hO hg2
          have B10 := Lib.hid (B9.out.trans (hO.below B9.out.size (fun k hk e => by omega)))
          clear hO hS0 hrow hg2
          have hS0 := hS1
          clear hS1
          refine hK _ _ ⟨hS0, ?_⟩
          clear hK K'
          try simp only [Act.put, List.setIfInBounds_toArray, List.set_cons_zero, List.set_cons_succ]
          refine wpAnyH_take (i := 11) (oi := ⟨some 8, _, _, _, _, _⟩) (v := ?_) rfl (by kernel_rfl) (by kernel_rfl) (by kernel_rfl) (fun _ _ _ h => h) (Or.inl ⟨by rfl, ?_⟩) hS0 ?_
          rotate_left
          · (intro w' hSw; clear hSw; go_simp; try (with_reducible rfl))
          simp only [Act.put, List.setIfInBounds_toArray, List.set_cons_zero, List.set_cons_succ]
          refine wpAnyH_done (by kernel_rfl) ?_ _
          go_wp2_with fail
          go_meet
          exact ⟨r, g, rfl, rfl, Hr.out, by rw [← HY.out]; exact Hrow.out, hS0, B10.out⟩
      · refine wpOp_runW (o := ⟨some 7, _, _, _, _, _⟩) rfl rfl fun K' hK => ?_
        go_simp
        obtain ⟨w7, hw7⟩ : ∃ w', w6.alloc (.cells #[.int .u32 0, .int .u32 0, .int .u32 0, .int .u32 0, .int .u32 0, .int .u32 0, .int .u32 0] 30) = w' := ⟨_, rfl⟩
        rw [hw7]
        have hB : Below w6.heap.size w6 w7 := by rw [← hw7]; exact ext_alloc _ _
        have G7 := Lib.hid (show w7.heap[w6.heap.size]? = some (.cells #[.int .u32 0, .int .u32 0, .int .u32 0, .int .u32 0, .int .u32 0, .int .u32 0, .int .u32 0] 30 (0, 0)) by rw [← hw7]; exact heap_alloc_new _ _)
        have Hg := Lib.hid (show w.heap.size + 2 ≤ w6.heap.size from (Array.getElem?_eq_some_iff.1 hS0.2).1)
        clear hw7
        generalize w6.heap.size = g at G7 Hg ⊢
        have hS1 := hS0.keep hB
        have B7 := Lib.hid (B6.out.trans (hB.mono B6.out.size))
        have E7 := Lib.hid hB
        clear hB hS0
        have hS0 := hS1
        clear hS1
        refine hK _ _ ⟨hS0, ?_⟩
        clear hK K'
        try simp only [Act.put, List.setIfInBounds_toArray, List.set_cons_zero, List.set_cons_succ]
        refine wpAnyH_all (rs := [4]) (by kernel_rfl) (by simp) ?_
        intro i hi
        rw [List.mem_singleton] at hi
        subst hi
        refine wpOp_runW (o := ⟨some 36, _, _, _, _, _⟩) rfl rfl fun K' hK => ?_
        go_simp
        refine (HBd.out _ B7.out).mono ?_
        rintro e w8 ⟨T, bo, cb, rfl, hT, hc, _, _, hRT, hB⟩
        have hS1 := hS0.keep hB
        have B8 := Lib.hid (B7.out.trans (hB.mono B7.out.size))
        have E8 := Lib.hid hB
        clear hB hS0
        have hS0 := hS1
        clear hS1
        refine hK _ _ ⟨hS0, ?_⟩
        clear hK K'
        try simp only [Act.put, List.setIfInBounds_toArray, List.set_cons_zero, List.set_cons_succ]
        have G8 := Lib.hid ((E8.out.block _ (Array.getElem?_eq_some_iff.1 G7.out).1).trans G7.out)
        refine wpAnyH_all (rs := [5]) (by kernel_rfl) (by simp) ?_
        intro i hi
        rw [List.mem_singleton] at hi
        subst hi
        refine wpOp_runW (o := ⟨some 37, _, _, _, _, _⟩) rfl rfl fun K' hK => ?_
        go_simp
        refine (HMv.out _ B8.out T bo cb _ hT hc hRT).mono ?_
        rintro e w9 ⟨r, yc, HY, hr, rfl, hB⟩
        have Hr := Lib.hid hr
        clear hr
        have hS1 := hS0.keep hB
        have B9 := Lib.hid (B8.out.trans (hB.mono B8.out.size))
        have E9 := Lib.hid hB
        clear hB hS0
        have hS0 := hS1
        clear hS1
        refine hK _ _ ⟨hS0, ?_⟩
        clear hK K'
        try simp only [Act.put, List.setIfInBounds_toArray, List.set_cons_zero, List.set_cons_succ]
        have G9 := Lib.hid ((E9.out.block _ (Array.getElem?_eq_some_iff.1 G8.out).1).trans G8.out)
        refine wpAnyH_take (i := 6) (oi := ⟨some 31, _, _, _, _, _⟩) (v := ?_) rfl (by kernel_rfl) (by kernel_rfl) (by kernel_rfl) (fun _ _ _ h => h) (Or.inl ⟨by rfl, ?_⟩) hS0 ?_
        rotate_left
        · (intro w' hSw; clear hSw; go_simp; try (with_reducible rfl))
        simp only [Act.put, List.setIfInBounds_toArray, List.set_cons_zero, List.set_cons_succ]
        refine wpAnyH_take (i := 7) (oi := ⟨some 38, _, _, _, _, _⟩) (v := ?_) rfl (by kernel_rfl) (by kernel_rfl) (by kernel_rfl) (fun _ _ _ h => h) (Or.inl ⟨by rfl, ?_⟩) hS0 ?_
        rotate_left
        · (intro w' hSw; clear hSw; go_simp; try (with_reducible rfl))
        simp only [Act.put, List.setIfInBounds_toArray, List.set_cons_zero, List.set_cons_succ]
        refine wpAnyH_take (i := 8) (oi := ⟨some 39, _, _, _, _, _⟩) (v := ?_) rfl (by kernel_rfl) (by kernel_rfl) (by kernel_rfl) (fun _ _ _ h => h) (Or.inl ⟨by rfl, ?_⟩) hS0 ?_
        rotate_left
        · (intro w' hSw; clear hSw; go_simp; try (with_reducible rfl))
        simp only [Act.put, List.setIfInBounds_toArray, List.set_cons_zero, List.set_cons_succ]
        refine wpAnyH_all (rs := [10]) (by kernel_rfl) (by simp) ?_
        intro i hi
        rw [List.mem_singleton] at hi
        subst hi
        refine wpOp_runW (o := ⟨none, _, _, _, _, _⟩) rfl rfl fun K' hK => ?_
        refine wp_store_row21 _ _ _ rfl (b := g) rfl rfl G9.out (by rw [HY.out]; rfl) (by rw [HY.out]; exact wk_info _) (by rw [HY.out]; simp [wkCs, Value.oneCell']) ?_
        intro w10 hrow hO
        have Hrow := Lib.hid hrow
        have hg2 := Hg.out
        have hS1 := hS0.only hO hg2
        have B10 := Lib.hid (B9.out.trans (hO.below B9.out.size (fun k hk e => by omega)))
        clear hO hS0 hrow hg2
        have hS0 := hS1
        clear hS1
        refine hK _ _ ⟨hS0, ?_⟩
        clear hK K'
        try simp only [Act.put, List.setIfInBounds_toArray, List.set_cons_zero, List.set_cons_succ]
        refine wpAnyH_take (i := 11) (oi := ⟨some 8, _, _, _, _, _⟩) (v := ?_) rfl (by kernel_rfl) (by kernel_rfl) (by kernel_rfl) (fun _ _ _ h => h) (Or.inl ⟨by rfl, ?_⟩) hS0 ?_
        rotate_left
        · (intro w' hSw; clear hSw; go_simp; try (with_reducible rfl))
        simp only [Act.put, List.setIfInBounds_toArray, List.set_cons_zero, List.set_cons_succ]
        refine wpAnyH_done (by kernel_rfl) ?_ _
        go_wp2_with fail
        go_meet
        exact ⟨r, g, rfl, rfl, Hr.out, by rw [← HY.out]; exact Hrow.out, hS0, B10.out⟩
    case rest =>
      obtain ⟨r, g, rfl, rfl, hr, hrow, hS, hB⟩ := hcut
      rename World => w6
      have S6 := Lib.hid hS
      have B6 := Lib.hid hB
      have G6 := Lib.hid hrow
      obtain ⟨_, q2, q1⟩ := HC.out _ hS
      clear hrow hS hB ck HBd HMv HM HR HG
      by_cases hend : x.step = j.length ∨ l = []
      · obtain rfl := hr.1 hend
        have G7 := Lib.hid (show w6.heap[g]? = some (.cells wc 30 (0, 0)) by rw [← Hwc.out]; exact G6.out)
        have heq := eq_walker x x
        rw [Hwc.out] at heq
        simp only [decide_true] at heq
        clear hr
        by_cases hs : x.step = j.length
        · have d1 : ((x.step : Int) == (j.length : Int)) = true := beq_iff_eq.2 (by omega)
          have d1' : (x.step == j.length) = true := beq_iff_eq.2 hs
          clear hs hend
          go_wp2_with (first
            | (refine wpList_load_rowg rfl _ _ rfl g rfl 30 wc (0, 0) _ G7.out Try.underlying30 rfl HIw.out ?_)
            | (refine wpList_load_rowg rfl _ _ rfl (w.heap.size + 1) rfl 30 wc (0, 0) _ S6.out.2 Try.underlying30 rfl HIw.out ?_)
            | (go_at_call 13; (with_reducible refine (HA.out _).mono ?_); rintro e w9 ⟨rfl, hB⟩; have B9 := Lib.hid (B6.out.trans (hB.mono B6.out.size)); clear hB))
          go_ret
          exact ⟨rfl, B9.out⟩
        · have d1 : ((x.step : Int) == (j.length : Int)) = false := beq_eq_false_iff_ne.2 (by omega)
          have d1' : (x.step == j.length) = false := beq_eq_false_iff_ne.2 hs
          obtain rfl : l = [] := hend.resolve_left hs
          clear hs hend
          go_wp2_with (first
            | (refine wpList_load_rowg rfl _ _ rfl g rfl 30 wc (0, 0) _ G7.out Try.underlying30 rfl HIw.out ?_)
            | (refine wpList_load_rowg rfl _ _ rfl (w.heap.size + 1) rfl 30 wc (0, 0) _ S6.out.2 Try.underlying30 rfl HIw.out ?_)
            | (go_at_call 13; (with_reducible refine (HA.out _).mono ?_); rintro e w9 ⟨rfl, hB⟩; have B9 := Lib.hid (B6.out.trans (hB.mono B6.out.size)); clear hB))
          go_ret
          exact ⟨rfl, B9.out⟩
      · obtain ⟨he, hex⟩ := hr.2 hend
        obtain ⟨y, e⟩ := r
        simp only at he hex G6
        subst he
        have hal := alongB_all hex
        have d1 : ((x.step : Int) == (j.length : Int)) = false := beq_eq_false_iff_ne.2 (by omega)
        have d1' : (x.step == j.length) = false := beq_eq_false_iff_ne.2 (by omega)
        have hl0 : l ≠ [] := fun e => hend (.inr e)
        have hlp : 0 < l.length := by cases l with
          | nil => exact absurd rfl hl0
          | cons a l => simp
        have d2 : ((l.length : Int) == 0) = false := beq_eq_false_iff_ne.2 (by omega)
        have d2' : (l.length == 0) = false := beq_eq_false_iff_ne.2 (by omega)
        have Hal := Lib.hid hal
        have Hrd := Lib.hid (fun W (h : Below w.heap.size w W) => hrd.ext h)
        have Hat := Lib.hid (fun W (h : Below w6.heap.size w6 W) => (show W.cell? ⟨g, 2, none⟩ = some (.int .u32 (y.at_ : Nat)) from ((wk_cells G6.out).keep (h.block _ (Array.getElem?_eq_some_iff.1 G6.out).1)).2.2.1))
        clear hal hr hend hex hl0 hrd
        go_wp2_with fail
        go_loopw [9, 10] (fun v9 v10 wr => arcsI l y.at_ w6 v9 v10 wr) (fun _ v10 _ => l.length - (intOf v10).toNat)
        case atStart => exact ⟨0, by omega, rfl, rfl, Below.refl _ _⟩
        case round =>
          obtain ⟨k, hk, rfl, rfl, hB⟩ := hrel
          rename World => wo
          have HB := Lib.hid hB
          have HBw := Lib.hid (B6.out.trans (hB.mono B6.out.size))
          by_cases hlt : k < l.length
          · obtain ⟨bb, off, rfl, hbb, hc0, _, hok⟩ := (Hrd.out _ HBw.out).arc k hlt
            have hat := Hat.out _ HB.out
            have hst := alongB_succ l k y.at_ hlt
            have hir : (k : Int) < (l.length : Int) := by omega
            clear hB q1 q2 d1 d1' d2 d2'
            generalize l[k] = z at hc0 hok hst
            obtain ⟨z0, z1⟩ := z
            simp only at hc0 hst
            clear hok
            cases hab : alongB l k y.at_ with
            | true =>
              rw [hab, Bool.true_or] at hst
              have Hst := Lib.hid hst
              clear hst hab
              go_wp2_with fail
              go_quiet (fail)
              go_wp2_with fail
              go_roundw
              case rel => exact ⟨k + 1, by omega, by go_num, by rw [Hst.out], by first | exact HB.out.trans ((ext_drewN _ _).mono HB.out.size) | exact below_drewN HB.out _⟩
              case measure => simp [intOf]; omega
            | false =>
              rw [hab, Bool.false_or] at hst
              by_cases hz : z0 = y.at_
              · have e1 : ((z0 : Int) == (y.at_ : Int)) = true := beq_iff_eq.2 (by omega)
                have e1' : (z0 == y.at_) = true := beq_iff_eq.2 hz
                rw [e1'] at hst
                have Hst := Lib.hid hst
                clear hst hab hz
                go_wp2_with fail
                go_quiet (fail)
                go_wp2_with fail
                go_roundw
                case rel => exact ⟨k + 1, by omega, by go_num, by rw [Hst.out], by first | exact HB.out.trans ((ext_drewN _ _).mono HB.out.size) | exact below_drewN HB.out _⟩
                case measure => simp [intOf]; omega
              · have e1 : ((z0 : Int) == (y.at_ : Int)) = false := beq_eq_false_iff_ne.2 (by omega)
                have e1' : (z0 == y.at_) = false := beq_eq_false_iff_ne.2 hz
                rw [e1'] at hst
                have Hst := Lib.hid hst
                clear hst hab hz
                go_wp2_with fail
                go_quiet (fail)
                go_wp2_with fail
                go_roundw
                case rel => exact ⟨k + 1, by omega, by go_num, by rw [Hst.out], by first | exact HB.out.trans ((ext_drewN _ _).mono HB.out.size) | exact below_drewN HB.out _⟩
                case measure => simp [intOf]; omega
          · obtain rfl : k = l.length := by omega
            rw [Hal.out]
            clear hB
            go_wp2_with (go_at_call 13; (with_reducible refine (HA.out _).mono ?_); rintro e w9 ⟨rfl, hB⟩; have B9 := Lib.hid (HBw.out.trans (hB.mono HBw.out.size)); clear hB)
            go_ret
            exact ⟨rfl, B9.out⟩
  · have hkb : ((j.kind : Int) != 0) = true := bne_iff_ne.2 (by omega)
    have hkb' : (j.kind != 0) = true := bne_iff_ne.2 hk
    have HC0 := HC
    clear hg hsrc hrd hma hmw
    go_enter Try.func4, Try.ntmps4
    go_upto_region 1 with fail
    rw [← hW2]
    clear hW2
    generalize jobCs j so sc = jc at *
    generalize wkCs x = wc at *
    go_wp2_with (first
      | (refine wpList_load_row rfl _ _ rfl w.heap.size rfl 28 jc (0, 0) _ HS2.out.1 Try.underlying28 rfl HIj.out ?_)
      | (refine wpList_load_rowg rfl _ _ rfl w.heap.size rfl 28 jc (0, 0) _ S4.out.1 Try.underlying28 rfl HIj.out ?_)
      | (refine wpList_load_rowg rfl _ _ rfl (w.heap.size + 1) rfl 30 wc (0, 0) _ S4.out.2 Try.underlying30 rfl HIw.out ?_)
      | (go_at_call 12; (with_reducible refine (HG.out _).mono ?_); rintro e w3 ⟨rfl, hB⟩; have S3 := Lib.hid (HS2.out.keep hB); have B3 := Lib.hid (HB2.out.trans (hB.mono (by omega))); clear hB)
      | (go_at_call 16; (with_reducible refine (HM.out _ B3.out).mono ?_); rintro e w4 ⟨rfl, hB⟩; have S4 := Lib.hid (S3.out.keep hB); have B4 := Lib.hid (B3.out.trans (hB.mono B3.out.size)); clear hB)
      | (go_at_call 15; (with_reducible refine (HR.out _ B4.out).mono ?_); rintro e w5 ⟨rfl, hB⟩; have S5 := Lib.hid (S4.out.keep hB); have B5 := Lib.hid (B4.out.trans (hB.mono B4.out.size)); have ck := (HC0.out _ S5.out); clear hB)
      | (go_at_call 13; (with_reducible refine (HA.out _).mono ?_); rintro e w9 ⟨rfl, hB⟩; have B9 := Lib.hid (B5.out.trans (hB.mono B5.out.size)); clear hB))
    go_ret
    exact ⟨rfl, B9.out⟩
end Go.Proofs.Ytlgnpogmgpgdaaa
