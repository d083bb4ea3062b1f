/- palmerref22.next. -/
import Derived.Test.YtcklfffeimnfeaaGreatRefTest
import Derived.Test.YtcklfffeimnfeaaGreatRefRemap2
import Derived.Test.YtcklfffeimnfeaaGreatRefBuild
import Derived.Test.YtcklfffeimnfeaaGreatBx13
import Derived.Deep.RegionHeld
import Derived.BigQuiet
set_option maxRecDepth 100000
set_option maxHeartbeats 12800000
set_option linter.unusedSimpArgs false
set_option linter.unusedVariables false
namespace Go.Proofs.YtcklfffeimnfeaaGreat
open Go.RowKit

def nextV : Option Nat → Value
  | some v => .tuple #[.int .u32 (v : Nat), .bool true]
  | none => .tuple #[.int .u32 0, .bool false]
def NRows (a b : Nat) (jc xc : Array Value) (w : World) : Prop := w.heap[a]? = some (.cells jc 29 (0, 0)) ∧ w.heap[b]? = some (.cells xc 44 (0, 0))
theorem keepN {w w' : World} {g : Nat} {o : Obj} (h : w.heap[g]? = some o) (hB : Below w.heap.size w w') : w'.heap[g]? = some o := (hB.block _ (Array.getElem?_eq_some_iff.1 h).1).trans h
theorem NRows.ext {a b : Nat} {jc xc : Array Value} {w w' : World} (h : NRows a b jc xc w) (hB : Below w.heap.size w w') : NRows a b jc xc w' := ⟨keepN h.1 hB, keepN h.2 hB⟩
theorem rowN_j (j : JobD) (so : Option Addr) (sc : Nat) : (Tryz.prog.info? 29).map (·.size) = some (jobCs j so sc).size := by kernel_rfl
theorem rowN_x (x : WkD) : (Tryz.prog.info? 44).map (·.size) = some (wkCs x).size := by kernel_rfl
section
variable {P : Program} {ops : Array Oper} {S : World → Prop} {Q : Exit → Act → World → Prop}
theorem yieldsIf_rowN {o : Oper} {a : Act} (hw : Region.wanted o (yielded ops a.tmps) = true) (ty : TypeId) (x : Operand) (ho : o.op = .load ty x) (g : Nat) (hx : a.eval x = .pointer (some ⟨g, 0, none⟩)) (t : TypeId) (cs : Array Value) (fr : Nat × Nat) (d : TypeDesc)
    (hS : ∀ w, S w → w.heap[g]? = some (.cells cs t fr)) (hu : P.underlying ty = some d) (hd : (match d with | .struct _ | .array _ _ => true | _ => false) = true) (hi : (P.info? ty).map (·.size) = some cs.size) : YieldsIf P ops S o (.agg cs) a := by
  refine Or.inl ⟨hw, fun w hs => ?_⟩
  unfold execOp
  simp only [ho, hx, Instr.loadAt, Instr.sureAddr, Sem.run_bind, Sem.run_pure, Result.andThen_ok, run_loadVar_row w g t ty cs fr d (hS w hs) hu hd hi]
end
/-- so far the tries have come -/
def rnI (near : Nat → Nat → Bool) (l : List ArcD) (j : JobD) (id : Nat) (path : List Nat) (w : World) (v : Value) (wr : World) : Prop :=
  ∃ t : Nat, t ≤ j.tries ∧ v = .int .u32 (t : Nat) ∧ triesW near l j id path (j.tries - t) t = triesW near l j id path j.tries 0 ∧ Below w.heap.size w wr
theorem rnext22_any (R : List RowD) (ro : Option Addr) (rc : Nat) (rfp : Nat → Prop) (hR : okG R) (hl : R.length ≤ 1000) (ha : ∀ r ∈ R, r.2.length ≤ 1000) (j : JobD) (hj : JobOk j) (so : Option Addr) (sc id : Nat) (hid : id < 4294967296) (path : List Nat) (hp0 : 0 < path.length) (hpl : path.length - 1 < j.length) (pa : Option Addr) (pc : Nat)
    (w : World) (hrd : RdS rowRep rfp w ro R) (hpath : Rd w pa path.length (u32s path)) :
    Calls Tryz.prog 35 #[.slice ro R.length rc, .agg (jobCs j so sc), .int .u32 (id : Nat), .slice pa path.length pc] w (RetB (nextV (nextW R j id path)) w) := by
  obtain ⟨s, hps⟩ : ∃ s, path.length - 1 = s := ⟨_, rfl⟩
  have hjl := hj.length
  have htrs := hj.tries
  have hs32 : s < 4294967296 := by omega
  rw [hps] at hpl
  have hsn : (path.length : Int) - 1 = (s : Int) := by omega
  have u1 : IntKind.u32.wrap (s : Int) = (s : Int) := IntWalk.u32_in _ (by omega)
  obtain ⟨W1, hW1⟩ : ∃ W1, w.alloc (.cells (jobCs j so sc) 29) = W1 := ⟨_, rfl⟩
  have hz1 : W1.heap.size = w.heap.size + 1 := by rw [← hW1]; simp
  have B1 := Lib.hid (show Below w.heap.size w W1 by rw [← hW1]; exact ext_alloc w _)
  have R1 := Lib.hid (show W1.heap[w.heap.size]? = some (.cells (jobCs j so sc) 29 (0, 0)) by rw [← hW1]; exact heap_alloc_new w _)
  have HZ2 := Lib.hid (show (W1.alloc (.cells #[.int .u32 0, .int .u32 0, .int .u32 0, .int .u32 0, .int .u32 0, .int .u32 0, .int .u32 0] 44)).heap[w.heap.size + 1]? = some (.cells #[.int .u32 0, .int .u32 0, .int .u32 0, .int .u32 0, .int .u32 0, .int .u32 0, .int .u32 0] 44 (0, 0)) by rw [← hz1]; exact heap_alloc_new W1 _)
  have HR2 := Lib.hid (show (W1.alloc (.cells #[.int .u32 0, .int .u32 0, .int .u32 0, .int .u32 0, .int .u32 0, .int .u32 0, .int .u32 0] 44)).heap[w.heap.size]? = some (.cells (jobCs j so sc) 29 (0, 0)) from keepN R1.out (ext_alloc W1 _))
  have HIj := Lib.hid (rowN_j j so sc)
  have HIx := Lib.hid (rowN_x (wkAt id s))
  have HC := Lib.hid (fun W (h : NRows w.heap.size (w.heap.size + 1) (jobCs j so sc) (wkCs (wkAt id s)) W) => (show W.cell? ⟨w.heap.size, 0, none⟩ = some (.int .u8 (j.kind : Nat)) ∧ W.cell? ⟨w.heap.size, 2, none⟩ = some (.int .u32 (j.length : Nat)) ∧ W.cell? ⟨w.heap.size, 5, none⟩ = some (.int .u32 (j.stop : Nat)) ∧ W.cell? ⟨w.heap.size, 6, none⟩ = some (.int .u32 (j.od : Nat)) ∧ W.cell? ⟨w.heap.size, 9, none⟩ = some (.int .u32 (j.tries : Nat)) ∧ W.cell? ⟨w.heap.size + 1, 1, none⟩ = some (.int .u32 (s : Nat)) ∧ W.cell? ⟨w.heap.size, 9, none⟩ = some (.int .u32 (j.tries : Nat)) from
    ⟨cell_of_row W _ 0 _ _ (0, 0) h.1, cell_of_row W _ 2 _ _ (0, 0) h.1, cell_of_row W _ 5 _ _ (0, 0) h.1, cell_of_row W _ 6 _ _ (0, 0) h.1, cell_of_row W _ 9 _ _ (0, 0) h.1, cell_of_row W _ 1 _ _ (0, 0) h.2, cell_of_row W _ 9 _ _ (0, 0) h.1⟩))
  have Hpath := Lib.hid hpath
  have HTs := Lib.hid (fun W => (show Calls Tryz.prog 73 #[.agg (jobCs j so sc), .agg (wkCs (wkAt id s)), .int .u32 0, .int .u64 (j.od : Nat)] W (RetB (.int .u64 (drwN j (wkAt id s) 0 j.od : Nat)) W) from rtest21_any j so sc (wkAt id s) hid hs32 0 j.od (by omega) (by have := hj.od; omega) W))
  have HAr := Lib.hid (fun W (h : Below w.heap.size w W) => arcs15_any R path[s]! ro rc rfp W (by omega) (hrd.ext h))
  have hlast : path[path.length - 1]! = path[s]! := by rw [hps]
  have Hnx0 := Lib.hid (show arcs15M R path[s]! = [] → nextW R j id path = none from fun h => by unfold nextW; rw [hlast, if_pos h])
  have Hnx1 := Lib.hid (show arcs15M R path[s]! ≠ [] → backW j id s = true → nextW R j id path = some path[0]! from fun h h2 => by unfold nextW; rw [hlast, if_neg h, hps, h2]; rfl)
  have Hnx2 := Lib.hid (show arcs15M R path[s]! ≠ [] → backW j id s = false → nextW R j id path = triesW (near15M R) (arcs15M R path[s]!) j id path j.tries 0 from fun h h2 => by unfold nextW; rw [hlast, if_neg h, hps, h2]; rfl)
  have Hok := Lib.hid (show mayA (arcs15M R path[s]!) = true ∧ (arcs15M R path[s]!).length ≤ 1000 from by
    rcases arcs15_mem (R := R) (v := path[s]!) with e | ⟨r, hm, _, e⟩
    · rw [e]; exact ⟨by decide, by simp⟩
    · rw [e]; exact ⟨(hR.may r hm).1, ha r hm⟩)
  obtain ⟨jc, hjc⟩ : ∃ jc, jobCs j so sc = jc := ⟨_, rfl⟩
  obtain ⟨xc, hxc⟩ : ∃ xc, wkCs (wkAt id s) = xc := ⟨_, rfl⟩
  have HXc := Lib.hid (show (#[.int .u32 (id : Nat), .int .u32 (s : Nat), .int .u32 0, .int .u32 0, .int .u32 0, .int .u32 0, .int .u32 0] : Array Value) = xc from hxc)
  have HW1 := Lib.hid hW1
  rw [hjc] at HIj HC HTs R1 HR2 HW1 ⊢
  rw [hxc] at HIx HC HTs
  obtain ⟨pb0, po0, hpa, hpb0, hpc0⟩ := hpath.u32 s (by omega)
  have hpc1 : path[s] = path[s]! := (getElem!_pos path s (by omega)).symm
  rw [hpc1] at hpc0
  have HPs := Lib.hid (fun W (h : Below w.heap.size w W) => ((bcell h).1 pb0 (po0 + s) hpb0).trans hpc0)
  subst hpa
  obtain ⟨lv, hlv⟩ : ∃ lv, path[s]! = lv := ⟨_, rfl⟩
  rw [hlv] at HPs HAr Hnx0 Hnx1 Hnx2 Hok
  have hsr : (s : Int) < (path.length : Int) := by omega
  clear hW1 hpath hpc0 hpc1 hlast hlv
  go_enter Tryz.func35, Tryz.ntmps35
  go_upto_region 1 with fail
  rw [HW1.out]
  go_upto_region 3 with (refine wpList_store_row rfl _ _ _ rfl (b := w.heap.size + 1) rfl rfl HZ2.out rfl (show _ = some 7 by kernel_rfl) (by simp [Value.oneCell']) ?_; intro w2 hg2 ho2; have HG2 := Lib.hid hg2; have HO2 := Lib.hid ho2; clear hg2 ho2)
  have S2 := Lib.hid (show NRows w.heap.size (w.heap.size + 1) jc xc w2 from ⟨(HO2.out.same w.heap.size (by simp; omega) (by omega)).trans HR2.out, by rw [← HXc.out]; exact HG2.out⟩)
  have B2 := Lib.hid (show Below w.heap.size w w2 from B1.out.trans (((ext_alloc W1 _).trans (HO2.out.below (by simp) (fun k hk e => by omega))).mono (by omega)))
  have cp := HPs.out w2 B2.out
  clear HG2 HO2 HR2 HZ2 R1 HW1 B1 hz1
  go_upto_region 4 with (go_at_call 72; (with_reducible refine (HAr.out w2 B2.out).mono ?_); rintro e w3 ⟨la, lc, rfl, hlc, _, hra, hB⟩; have RA3 := Lib.hid hra; have S3 := Lib.hid (S2.out.ext hB); have B3 := Lib.hid (B2.out.trans (hB.mono B2.out.size)); clear hB hra)
  clear cp HAr S2 B2
  obtain ⟨l, hll⟩ : ∃ l, arcs15M R lv = l := ⟨_, rfl⟩
  rw [hll] at RA3 hlc Hnx0 Hnx1 Hnx2 Hok ⊢
  clear hll
  obtain ⟨c0, c2, c5, c6, c9, x1, _⟩ := HC.out w3 S3.out
  have hsl : ((s : Int) == (j.length : Int)) = false := beq_eq_false_iff_ne.2 (by omega)
  have hsl' : (s == j.length) = false := beq_eq_false_iff_ne.2 (by omega)
  obtain ⟨hm, hll⟩ := Hok.out
  by_cases hne : l = []
  · have Hv := Lib.hid (Hnx0.out hne)
    have e0 : ((l.length : Int) == 0) = true := by rw [hne]; rfl
    have e0' : (l.length == 0) = true := by rw [hne]; rfl
    clear hne c0 c5 c6 c9
    go_wp2_with fail
    go_ret2
    exact ⟨by rw [Hv.out]; rfl, B3.out⟩
  have hl0 : 0 < l.length := List.length_pos_iff.2 hne
  obtain ⟨ab, aoff, hla, _, _, _, _⟩ := RA3.out.arc 0 hl0
  subst hla
  have e0 : ((l.length : Int) == 0) = false := beq_eq_false_iff_ne.2 (by omega)
  have e0' : (l.length == 0) = false := beq_eq_false_iff_ne.2 (by omega)
  have hsm := (of_decide_eq_true hm).2.2
  have Hnx1 := Lib.hid (Hnx1.out hne)
  have Hnx2 := Lib.hid (Hnx2.out hne)
  clear Hnx0
  go_upto_region 6 with fail
  clear x1 c2 c9 hsl hsl' e0 e0'
  obtain ⟨u, hu⟩ : ∃ u, drwN j (wkAt id s) 0 j.od = u := ⟨_, rfl⟩
  rw [hu] at HTs
  have hbk : backW j id s = (decide (j.kind = 1) && decide (u < j.stop)) := by unfold backW; rw [← hu]; rfl
  rw [hbk] at Hnx1 Hnx2
  have Hp0 := Lib.hid (show ∀ W, Below w.heap.size w W → W.cell? ⟨pb0, po0, none⟩ = some (.int .u32 (path[0]! : Nat)) from fun W h => by
    obtain ⟨b, o, e, h1, h2⟩ := Hpath.out.u32 0 hp0
    cases e
    rw [getElem!_pos path 0 hp0]
    exact ((bcell h).1 pb0 (po0 + 0) h1).trans h2)
  obtain ⟨pz, hpz⟩ : ∃ pz, path[0]! = pz := ⟨_, rfl⟩
  rw [hpz] at Hp0 Hnx1
  have hod := hj.od
  have hstp := hj.stop
  clear hu hbk hpz
  go_cut [54] (fun v wx => v = .bool (decide (j.kind = 1) && decide (u < j.stop)) ∧ NRows w.heap.size (w.heap.size + 1) jc xc wx ∧ Below w3.heap.size w3 wx)
  case first =>
    by_cases hk1 : j.kind = 1
    · have q1 : ((j.kind : Int) == 1) = true := by simp; omega
      have q1' : (j.kind == 1) = true := by simp; omega
      have u6 : IntKind.u64.wrap (j.od : Int) = (j.od : Int) := IntWalk.u64_in _ (by omega)
      have u7 : IntKind.u64.wrap (j.stop : Int) = (j.stop : Int) := IntWalk.u64_in _ (by omega)
      clear c0 c5 c6
      have hdk : (decide (j.kind = 1) && decide (u < j.stop)) = decide ((u : Int) < (j.stop : Int)) := by rw [decide_eq_true hk1, Bool.true_and]; simp
      have Hdk := Lib.hid hdk
      clear hdk hk1
      refine wp_region_held (S := NRows w.heap.size (w.heap.size + 1) jc xc) (by kernel_rfl) ?_
      have hS0 : NRows w.heap.size (w.heap.size + 1) jc xc w3.drew := S3.out.ext (ext_drew w3)
      have B6 := Lib.hid (ext_drew w3)
      change wpAnyH _ _ _ _ _ _ _ _ (World.drew _)
      refine wpAnyH_take (i := 0) (oi := ⟨some 40, _, _, _, _, _⟩) (v := ?_) rfl (by kernel_rfl) (by kernel_rfl) (by kernel_rfl) (fun _ _ _ h => h) (Or.inl ⟨by rfl, ?_⟩) hS0 ?_
      rotate_left
      · (intro w' hSw; clear hSw; go_simp; try (with_reducible rfl))
      simp only [Act.put, List.setIfInBounds_toArray, List.set_cons_zero, List.set_cons_succ]
      refine wpAnyH_take (i := 1) (oi := ⟨some 41, _, _, _, _, _⟩) (v := ?_) rfl (by kernel_rfl) (by kernel_rfl) (by kernel_rfl) (fun _ _ _ h => h) (Or.inl ⟨by rfl, ?_⟩) hS0 ?_
      rotate_left
      · (intro w' hSw; obtain ⟨k0, k2, k5, k6, k9, kx, _⟩ := HC.out w' hSw; clear hSw; go_simp; try (with_reducible rfl))
      simp only [Act.put, List.setIfInBounds_toArray, List.set_cons_zero, List.set_cons_succ]
      refine wpAnyH_take (i := 2) (oi := ⟨some 42, _, _, _, _, _⟩) (v := ?_) rfl (by kernel_rfl) (by kernel_rfl) (by kernel_rfl) (fun _ _ _ h => h) (Or.inl ⟨by rfl, ?_⟩) hS0 ?_
      rotate_left
      · (intro w' hSw; clear hSw; go_simp; try (with_reducible rfl))
      simp only [Act.put, List.setIfInBounds_toArray, List.set_cons_zero, List.set_cons_succ]
      refine wpAnyH_take (i := 3) (oi := ⟨some 43, _, _, _, _, _⟩) (v := ?_) rfl (by kernel_rfl) (by kernel_rfl) (by kernel_rfl) (fun _ _ _ h => h) (Or.inl ⟨by rfl, ?_⟩) hS0 ?_
      rotate_left
      · (intro w' hSw; clear hSw; go_simp; try (with_reducible rfl))
      simp only [Act.put, List.setIfInBounds_toArray, List.set_cons_zero, List.set_cons_succ]
      refine wpAnyH_take (i := 4) (oi := ⟨some 44, _, _, _, _, _⟩) (v := .agg jc) rfl (by kernel_rfl) (by kernel_rfl) (by kernel_rfl) (fun _ _ _ h => h) (yieldsIf_rowN rfl _ _ rfl w.heap.size rfl 29 jc (0, 0) _ (fun _ h => h.1) Tryz.underlying29 rfl HIj.out) hS0 ?_
      simp only [Act.put, List.setIfInBounds_toArray, List.set_cons_zero, List.set_cons_succ]
      refine wpAnyH_take (i := 5) (oi := ⟨some 45, _, _, _, _, _⟩) (v := .agg xc) rfl (by kernel_rfl) (by kernel_rfl) (by kernel_rfl) (fun _ _ _ h => h) (yieldsIf_rowN rfl _ _ rfl (w.heap.size + 1) rfl 44 xc (0, 0) _ (fun _ h => h.2) Tryz.underlying44 rfl HIx.out) hS0 ?_
      simp only [Act.put, List.setIfInBounds_toArray, List.set_cons_zero, List.set_cons_succ]
      refine wpAnyH_take (i := 6) (oi := ⟨some 46, _, _, _, _, _⟩) (v := ?_) rfl (by kernel_rfl) (by kernel_rfl) (by kernel_rfl) (fun _ _ _ h => h) (Or.inl ⟨by rfl, ?_⟩) hS0 ?_
      rotate_left
      · (intro w' hSw; clear hSw; go_simp; try (with_reducible rfl))
      simp only [Act.put, List.setIfInBounds_toArray, List.set_cons_zero, List.set_cons_succ]
      refine wpAnyH_take (i := 7) (oi := ⟨some 47, _, _, _, _, _⟩) (v := ?_) rfl (by kernel_rfl) (by kernel_rfl) (by kernel_rfl) (fun _ _ _ h => h) (Or.inl ⟨by rfl, ?_⟩) hS0 ?_
      rotate_left
      · (intro w' hSw; obtain ⟨k0, k2, k5, k6, k9, kx, _⟩ := HC.out w' hSw; clear hSw; go_simp; try (with_reducible rfl))
      simp only [Act.put, List.setIfInBounds_toArray, List.set_cons_zero, List.set_cons_succ]
      refine wpAnyH_take (i := 8) (oi := ⟨some 48, _, _, _, _, _⟩) (v := ?_) rfl (by kernel_rfl) (by kernel_rfl) (by kernel_rfl) (fun _ _ _ h => h) (Or.inl ⟨by rfl, ?_⟩) hS0 ?_
      rotate_left
      · (intro w' hSw; clear hSw; go_simp; try (with_reducible rfl))
      simp only [Act.put, List.setIfInBounds_toArray, List.set_cons_zero, List.set_cons_succ]
      refine wpAnyH_take (i := 10) (oi := ⟨some 50, _, _, _, _, _⟩) (v := ?_) rfl (by kernel_rfl) (by kernel_rfl) (by kernel_rfl) (fun _ _ _ h => h) (Or.inl ⟨by rfl, ?_⟩) hS0 ?_
      rotate_left
      · (intro w' hSw; clear hSw; go_simp; try (with_reducible rfl))
      simp only [Act.put, List.setIfInBounds_toArray, List.set_cons_zero, List.set_cons_succ]
      refine wpAnyH_take (i := 11) (oi := ⟨some 51, _, _, _, _, _⟩) (v := ?_) rfl (by kernel_rfl) (by kernel_rfl) (by kernel_rfl) (fun _ _ _ h => h) (Or.inl ⟨by rfl, ?_⟩) hS0 ?_
      rotate_left
      · (intro w' hSw; obtain ⟨k0, k2, k5, k6, k9, kx, _⟩ := HC.out w' hSw; clear hSw; go_simp; try (with_reducible rfl))
      simp only [Act.put, List.setIfInBounds_toArray, List.set_cons_zero, List.set_cons_succ]
      refine wpAnyH_take (i := 12) (oi := ⟨some 52, _, _, _, _, _⟩) (v := ?_) rfl (by kernel_rfl) (by kernel_rfl) (by kernel_rfl) (fun _ _ _ h => h) (Or.inl ⟨by rfl, ?_⟩) hS0 ?_
      rotate_left
      · (intro w' hSw; clear hSw; go_simp; try (with_reducible rfl))
      simp only [Act.put, List.setIfInBounds_toArray, List.set_cons_zero, List.set_cons_succ]
      refine wpAnyH_all (rs := [9]) (by kernel_rfl) (by simp) ?_
      intro i hi
      rw [List.mem_singleton] at hi
      subst hi
      refine wpOp_runW (o := ⟨some 49, _, _, _, _, _⟩) rfl rfl fun K' hK => ?_
      go_simp
      refine (HTs.out _).mono ?_
      rintro e w7 ⟨rfl, hB⟩
      have hS1 := hS0.ext hB
      have B7 := Lib.hid (B6.out.trans (hB.mono B6.out.size))
      clear hS0 hB
      have hS0 := hS1
      clear hS1
      refine hK _ _ ⟨hS0, ?_⟩
      clear hK K'
      try simp only [Act.put, List.setIfInBounds_toArray, List.set_cons_zero, List.set_cons_succ]
      refine wpAnyH_take (i := 13) (oi := ⟨some 53, _, _, _, _, _⟩) (v := ?_) rfl (by kernel_rfl) (by kernel_rfl) (by kernel_rfl) (fun _ _ _ h => h) (Or.inl ⟨by rfl, ?_⟩) hS0 ?_
      rotate_left
      · (intro w' hSw; clear hSw; go_simp; try (with_reducible rfl))
      simp only [Act.put, List.setIfInBounds_toArray, List.set_cons_zero, List.set_cons_succ]
      refine wpAnyH_take (i := 14) (oi := ⟨some 54, _, _, _, _, _⟩) (v := ?_) rfl (by kernel_rfl) (by kernel_rfl) (by kernel_rfl) (fun _ _ _ h => h) (Or.inl ⟨by rfl, ?_⟩) hS0 ?_
      rotate_left
      · (intro w' hSw; clear hSw; go_simp; try (with_reducible rfl))
      simp only [Act.put, List.setIfInBounds_toArray, List.set_cons_zero, List.set_cons_succ]
      refine wpAnyH_done (by kernel_rfl) ?_ _
      go_wp2_with fail
      go_meet
      exact ⟨by rw [Hdk.out]; simp, hS0, B7.out⟩
    · have q1 : ((j.kind : Int) == 1) = false := beq_eq_false_iff_ne.2 (by omega)
      have q1' : (j.kind == 1) = false := beq_eq_false_iff_ne.2 hk1
      have Hdk := Lib.hid (show (decide (j.kind = 1) && decide (u < j.stop)) = false by rw [decide_eq_false hk1]; rfl)
      clear hk1
      go_quiet (fail)
      go_wp2_with fail
      go_meet
      exact ⟨by rw [Hdk.out], S3.out.ext (ext_drewN _ _), ext_drewN _ _⟩
  case rest =>
    obtain ⟨rfl, hS4, hE4⟩ := hcut
    rename World => w4
    have S4 := Lib.hid hS4
    have E4 := Lib.hid hE4
    have B4 := Lib.hid (B3.out.trans (hE4.mono B3.out.size))
    clear hS4 hE4 c0 c5 c6 HTs
    cases hb : (decide (j.kind = 1) && decide (u < j.stop)) with
    | true =>
      have Hv := Lib.hid (Hnx1.out hb)
      have cp0 := Hp0.out w4 B4.out
      have hp0i : (0 : Int) < (path.length : Int) := by omega
      clear hb
      go_wp2_with fail
      go_ret2
      exact ⟨by rw [Hv.out]; rfl, B4.out⟩
    | false =>
      have Hnx := Lib.hid (Hnx2.out hb)
      clear hb Hnx1 Hnx2 Hp0 hod hstp
      have RA := Lib.hid (RA3.out.ext E4.out)
      have HTo := Lib.hid (fun W (h : Below w4.heap.size w4 W) => rtotal_any l (some ⟨ab, aoff, none⟩) lc _ W (by omega) hne hm (RA.out.ext h))
      obtain ⟨T, hT0⟩ : ∃ T, buildT (l.map (·.2)) = T := ⟨_, rfl⟩
      have HTl := Lib.hid (show T.length = l.length by rw [← hT0, (buildT_right _).1, List.length_map])
      have HBu := Lib.hid (show Calls Tryz.prog 24 #[.slice (some ⟨ab, aoff, none⟩) l.length lc] w4 (fun e w' => ∃ bo cb, e = .returned (.slice bo l.length cb) ∧ RdS cellRep (fun b => w4.heap.size ≤ b) w' bo T ∧ Below w4.heap.size w4 w') from
        (buildX_any l (some ⟨ab, aoff, none⟩) lc _ w4 (by omega) RA.out).mono fun e w' he => by
          obtain ⟨bo, cb, h1, _, _, h4, h5⟩ := he
          rw [hT0] at h1 h4
          rw [HTl.out] at h1
          exact ⟨bo, cb, h1, h4, h5⟩)
      have HTr := Lib.hid (show RightT (l.map (·.2)) T from hT0 ▸ buildT_right _)
      have HT0 := Lib.hid hT0
      clear hT0
      go_wp2_with (go_at_call 24; (with_reducible refine HBu.out.mono ?_); rintro e w5 ⟨bo, cb, rfl, hrt, hB⟩; have RT := Lib.hid hrt; have S5 := Lib.hid (S4.out.ext hB); have RA5 := Lib.hid (RA.out.ext hB); have E5 := Lib.hid (E4.out.trans (hB.mono E4.out.size)); have B5 := Lib.hid (B4.out.trans (hB.mono B4.out.size)); have HTo5 := Lib.hid (fun W (h : Below w5.heap.size w5 W) => HTo.out W (hB.trans (h.mono hB.size))); clear hB hrt)
      go_loopw [14] (fun v14 wr => rnI (near15M R) l j id path w5 v14 wr) (fun v14 _ => j.tries - (intOf v14).toNat)
      case atStart => exact ⟨0, Nat.zero_le _, rfl, by rw [Nat.sub_zero], Below.refl _ _⟩
      case round =>
        obtain ⟨t, ht, rfl, htr, hB⟩ := hrel
        rename World => wo
        have So := Lib.hid (S5.out.ext hB)
        have Bo := Lib.hid (B5.out.trans (hB.mono B5.out.size))
        have Eo := Lib.hid hB
        have Htr := Lib.hid htr
        have cT : wo.cell? ⟨w.heap.size, 9, none⟩ = some (.int .u32 (j.tries : Nat)) := (HC.out wo So.out).2.2.2.2.2.2
        clear hB htr
        by_cases hlt : t < j.tries
        · have d : decide ((t : Int) < (j.tries : Int)) = true := decide_eq_true (by omega)
          have d' : decide (t < j.tries) = true := decide_eq_true hlt
          have htt : t < 4294967296 := by omega
          have hxx := cand_lt hm hne j id s t
          obtain ⟨htot, hsum, hlen⟩ := totalM_pos hm hne
          have hX := drwN_lt j (wkAt id s) (2 * t + 1) (totalM l) (by rw [htot]; exact Nat.mul_pos hsum hlen)
          have HPk := Lib.hid (fun W => rpick21_any j so sc (wkAt id s) hid hs32 t (totalM l) htt (by have := totalM_le (l := l) (by omega); omega) W)
          obtain ⟨X, hXe⟩ : ∃ X, drwN j (wkAt id s) (2 * t + 1) (totalM l) = X := ⟨_, rfl⟩
          have hXd : drawW j id s (2 * t + 1) (totalM l) = X := hXe
          rw [hXe] at hX HPk
          rw [hXd] at hxx
          have hxw : X < (l.map (·.2)).length * (l.map (·.2)).sum := by rw [List.length_map, Nat.mul_comm]; exact htot ▸ hX
          have hri := interval_remap HTr.out hxw
          have hrb := remap_bd HTr.out hxw
          have HRm := Lib.hid (fun W (h : Below wo.heap.size wo W) => rremap_any l T X (some ⟨ab, aoff, none⟩) bo lc cb _ _ W (by omega) hne hm HTr.out hX hlc ((RA5.out.ext Eo.out).ext h) ((RT.out.ext Eo.out).ext h))
          have HIv := Lib.hid (fun W (h : Below wo.heap.size wo W) => rinterval_any l (remapT (l.map (·.2)) T X) (some ⟨ab, aoff, none⟩) lc _ W (by omega) hsm (by rw [List.length_map] at hrb; exact hrb) hlc ((RA5.out.ext Eo.out).ext h))
          rw [hri] at HIv
          rw [HTl.out] at HRm
          have hcw : candW l j id s t = (l[toT (buildT (l.map (·.2))) (sumA l) X]!).1 := by unfold candW; rw [hXd]
          rw [HT0.out] at hxx hcw
          rw [getElem!_pos l _ hxx] at hcw
          obtain ⟨ab', aoff', hla0, hab, ac0, ac1, hokc⟩ := (RA5.out.ext Eo.out).arc _ hxx
          cases hla0
          have HAc := Lib.hid (fun W (h : Below wo.heap.size wo W) => ((bcell h).1 ab (aoff + toT T (sumA l) X * 2) hab).trans ac0)
          rw [← hcw] at HAc
          have hsumW : (l.map (·.2)).sum = sumA l := rfl
          rw [hsumW] at HIv
          have Htw := Lib.hid (show tryW (near15M R) l j id path t = if takesW (near15M R) j id path (candW l j id s t) t then some (candW l j id s t) else none by unfold tryW; rw [hps])
          have hix : ((toT T (sumA l) X : Nat) : Int) < (l.length : Int) := by omega
          have Hnt := Lib.hid (show tryW (near15M R) l j id path t = none → triesW (near15M R) l j id path (j.tries - (t + 1)) (t + 1) = triesW (near15M R) l j id path j.tries 0 from fun h => by
            rw [← Htr.out, show j.tries - t = j.tries - (t + 1) + 1 by omega, tries_none h])
          have Hst := Lib.hid (show ∀ v, tryW (near15M R) l j id path t = some v → nextW R j id path = some v from fun v h => by
            rw [Hnx.out, ← Htr.out, show j.tries - t = j.tries - (t + 1) + 1 by omega]; exact tries_some h)
          have HAcc := Lib.hid (fun (h0 : 0 < s) W (h : Below wo.heap.size wo W) => raccepts_any R ro rc rfp j hj so sc (wkAt id s) hid hs32 path[s - 1]! t (candW l j id s t) htt W (by omega) (fun r hr => by have := ha r hr; omega) (hrd.ext (Bo.out.trans (h.mono Bo.out.size))))
          clear hX hXe hXd hri hrb hcw ac0 ac1 hokc hxx hxw htot hsum hlen hsumW
          generalize toT T (sumA l) X = ix at *
          generalize remapT (l.map (·.2)) T X = y at *
          obtain ⟨cv, hcv⟩ : ∃ cv, candW l j id s t = cv := ⟨_, rfl⟩
          rw [hcv] at HAc Htw HAcc
          clear hcv
          rw [hjc, hxc] at HPk
          rw [hjc, hxc] at HAcc
          obtain ⟨tot, htot⟩ : ∃ tot, totalM l = tot := ⟨_, rfl⟩
          rw [htot] at HPk
          have HTo6 := Lib.hid (fun W (h : Below wo.heap.size wo W) => htot ▸ HTo5.out W (Eo.out.trans (h.mono Eo.out.size)))
          clear htot
          go_upto_region 12 with fail
          refine wp_region_held (S := NRows w.heap.size (w.heap.size + 1) jc xc) (by kernel_rfl) ?_
          have hS0 : NRows w.heap.size (w.heap.size + 1) jc xc wo.drew := So.out.ext (ext_drew wo)
          have B6 := Lib.hid (ext_drew wo)
          change wpAnyH _ _ _ _ _ _ _ _ (World.drew _)
          refine wpAnyH_take (i := 0) (oi := ⟨some 66, _, _, _, _, _⟩) (v := .agg jc) rfl (by kernel_rfl) (by kernel_rfl) (by kernel_rfl) (fun _ _ _ h => h) (yieldsIf_rowN rfl _ _ rfl w.heap.size rfl 29 jc (0, 0) _ (fun _ h => h.1) Tryz.underlying29 rfl HIj.out) hS0 ?_
          simp only [Act.put, List.setIfInBounds_toArray, List.set_cons_zero, List.set_cons_succ]
          refine wpAnyH_take (i := 1) (oi := ⟨some 67, _, _, _, _, _⟩) (v := .agg xc) rfl (by kernel_rfl) (by kernel_rfl) (by kernel_rfl) (fun _ _ _ h => h) (yieldsIf_rowN rfl _ _ rfl (w.heap.size + 1) rfl 44 xc (0, 0) _ (fun _ h => h.2) Tryz.underlying44 rfl HIx.out) hS0 ?_
          simp only [Act.put, List.setIfInBounds_toArray, List.set_cons_zero, List.set_cons_succ]
          refine wpAnyH_take (i := 2) (oi := ⟨some 68, _, _, _, _, _⟩) (v := ?_) rfl (by kernel_rfl) (by kernel_rfl) (by kernel_rfl) (fun _ _ _ h => h) (Or.inl ⟨by rfl, ?_⟩) hS0 ?_
          rotate_left
          · (intro w' hSw; clear hSw; go_simp; try (with_reducible rfl))
          simp only [Act.put, List.setIfInBounds_toArray, List.set_cons_zero, List.set_cons_succ]
          refine wpAnyH_take (i := 3) (oi := ⟨some 69, _, _, _, _, _⟩) (v := ?_) rfl (by kernel_rfl) (by kernel_rfl) (by kernel_rfl) (fun _ _ _ h => h) (Or.inl ⟨by rfl, ?_⟩) hS0 ?_
          rotate_left
          · (intro w' hSw; clear hSw; go_simp; try (with_reducible rfl))
          simp only [Act.put, List.setIfInBounds_toArray, List.set_cons_zero, List.set_cons_succ]
          refine wpAnyH_all (rs := [4]) (by kernel_rfl) (by simp) ?_
          intro i hi
          rw [List.mem_singleton] at hi
          subst hi
          refine wpOp_runW (o := ⟨some 70, _, _, _, _, _⟩) rfl rfl fun K' hK => ?_
          go_simp
          refine (HTo6.out _ B6.out).mono ?_
          rintro e w7 ⟨rfl, hB⟩
          have hS1 := hS0.ext hB
          have B7 := Lib.hid (B6.out.trans (hB.mono B6.out.size))
          clear hS0 hB
          have hS0 := hS1
          clear hS1
          refine hK _ _ ⟨hS0, ?_⟩
          clear hK K'
          try simp only [Act.put, List.setIfInBounds_toArray, List.set_cons_zero, List.set_cons_succ]
          refine wpAnyH_all (rs := [5]) (by kernel_rfl) (by simp) ?_
          intro i hi
          rw [List.mem_singleton] at hi
          subst hi
          refine wpOp_runW (o := ⟨some 71, _, _, _, _, _⟩) rfl rfl fun K' hK => ?_
          go_simp
          refine (HPk.out _).mono ?_
          rintro e w8 ⟨rfl, hB⟩
          have hS1 := hS0.ext hB
          have B8 := Lib.hid (B7.out.trans (hB.mono B7.out.size))
          clear hS0 hB
          have hS0 := hS1
          clear hS1
          refine hK _ _ ⟨hS0, ?_⟩
          clear hK K'
          try simp only [Act.put, List.setIfInBounds_toArray, List.set_cons_zero, List.set_cons_succ]
          refine wpAnyH_take (i := 6) (oi := ⟨some 15, _, _, _, _, _⟩) (v := ?_) rfl (by kernel_rfl) (by kernel_rfl) (by kernel_rfl) (fun _ _ _ h => h) (Or.inl ⟨by rfl, ?_⟩) hS0 ?_
          rotate_left
          · (intro w' hSw; clear hSw; go_simp; try (with_reducible rfl))
          simp only [Act.put, List.setIfInBounds_toArray, List.set_cons_zero, List.set_cons_succ]
          have S8 := Lib.hid hS0
          refine wpAnyH_done (by kernel_rfl) ?_ _
          clear hS0
          go_upto_region 14 with (first
            | (go_at_call 77; (with_reducible refine (HRm.out _ B8.out).mono ?_); rintro e w9 ⟨rfl, hB⟩; have S9 := Lib.hid (S8.out.ext hB); have B9 := Lib.hid (B8.out.trans (hB.mono B8.out.size)); clear hB)
            | (go_at_call 76; (with_reducible refine (HIv.out _ B9.out).mono ?_); rintro e w10 ⟨rfl, hB⟩; have S10 := Lib.hid (S9.out.ext hB); have hB10 := B9.out.trans (hB.mono B9.out.size); have ac10 := HAc.out _ hB10; have B10 := Lib.hid hB10; clear hB hB10))
          have c0 := (HC.out w10 S10.out).1
          have BB10 := Lib.hid (Bo.out.trans (B10.out.mono Bo.out.size))
          have BE10 := Lib.hid (Eo.out.trans (B10.out.mono Eo.out.size))
          clear ac10
          by_cases hk2 : j.kind ≠ 2
          · have q1 : ((j.kind : Int) != 2) = true := bne_iff_ne.2 (by omega)
            have q1' : (j.kind != 2) = true := bne_iff_ne.2 hk2
            have Hv := Lib.hid (Hst.out cv (by rw [Htw.out, show takesW (near15M R) j id path cv t = true by unfold takesW; rw [if_pos (.inl hk2)]]; rfl))
            go_quiet (fail)
            go_wp2_with fail
            go_ret2
            exact ⟨by rw [Hv.out]; rfl, BB10.out.trans ((ext_drewN _ _).mono BB10.out.size)⟩
          have hk2 : j.kind = 2 := Decidable.of_not_not hk2
          have q1 : ((j.kind : Int) != 2) = false := bne_eq_false_iff_eq.2 (by omega)
          have q1' : (j.kind != 2) = false := bne_eq_false_iff_eq.2 hk2
          by_cases hs0 : s = 0
          · have q2 : ((s : Int) == 0) = true := by simp; omega
            have q2' : (s == 0) = true := by simp; omega
            have Hv := Lib.hid (Hst.out cv (by rw [Htw.out, show takesW (near15M R) j id path cv t = true by unfold takesW; rw [if_pos (.inr (by omega))]]; rfl))
            go_quiet (fail)
            go_wp2_with fail
            go_ret2
            exact ⟨by rw [Hv.out]; rfl, BB10.out.trans ((ext_drewN _ _).mono BB10.out.size)⟩
          have q2 : ((s : Int) == 0) = false := beq_eq_false_iff_ne.2 (by omega)
          have q2' : (s == 0) = false := beq_eq_false_iff_ne.2 hs0
          have htk : takesW (near15M R) j id path cv t = decide (drwN j (wkAt id s) (2 * t) (j.p * j.q) < weightN j.p j.q (cv == path[s - 1]!) (near15M R path[s - 1]! cv)) := by
            unfold takesW
            rw [if_neg (by omega), show path.length - 2 = s - 1 by omega, hps]
            rfl
          have HAc2 := Lib.hid (HAcc.out (by omega))
          rw [← htk] at HAc2
          obtain ⟨bt, hbt⟩ : ∃ bt, takesW (near15M R) j id path cv t = bt := ⟨_, rfl⟩
          rw [hbt] at HAc2 Htw
          obtain ⟨d, hd⟩ : ∃ d, s - 1 = d := ⟨_, rfl⟩
          have hsd : (s : Int) - 1 = (d : Int) := by omega
          have hdl : (d : Int) < (path.length : Int) := by omega
          have hd0 : (0 : Int) ≤ (d : Int) := by omega
          have udw : IntKind.i64.wrap (d : Int) = (d : Int) := IntWalk.i64_in _ (by omega)
          have HPc := Lib.hid (show ∀ W, Below w.heap.size w W → W.cell? ⟨pb0, po0 + d, none⟩ = some (.int .u32 (path[s - 1]! : Nat)) from fun W h => by
            obtain ⟨b, o, e, h1, h2⟩ := Hpath.out.u32 d (by omega)
            cases e
            rw [hd, getElem!_pos path d (by omega)]
            exact ((bcell h).1 pb0 (po0 + d) h1).trans h2)
          obtain ⟨pv, hpv⟩ : ∃ pv, path[s - 1]! = pv := ⟨_, rfl⟩
          rw [hpv] at HPc HAc2
          clear hpv htk HAcc hd hk2 hs0
          refine wp_region_held (S := fun W => NRows w.heap.size (w.heap.size + 1) jc xc W ∧ W.cell? ⟨pb0, po0 + d, none⟩ = some (.int .u32 (pv : Nat))) (by kernel_rfl) ?_
          have hS0 : NRows w.heap.size (w.heap.size + 1) jc xc w10.drew ∧ w10.drew.cell? ⟨pb0, po0 + d, none⟩ = some (.int .u32 (pv : Nat)) := ⟨S10.out.ext (ext_drew w10), HPc.out _ (BB10.out.trans ((ext_drew w10).mono BB10.out.size))⟩
          have B11 := Lib.hid (B10.out.trans ((ext_drew w10).mono B10.out.size))
          change wpAnyH _ _ _ _ _ _ _ _ (World.drew _)
          refine wpAnyH_take (i := 0) (oi := ⟨some 82, _, _, _, _, _⟩) (v := ?_) rfl (by kernel_rfl) (by kernel_rfl) (by kernel_rfl) (fun _ _ _ h => h) (Or.inl ⟨by rfl, ?_⟩) hS0 ?_
          rotate_left
          · (intro w' hSw; clear hSw; go_simp; try (with_reducible rfl))
          simp only [Act.put, List.setIfInBounds_toArray, List.set_cons_zero, List.set_cons_succ]
          refine wpAnyH_take (i := 1) (oi := ⟨some 83, _, _, _, _, _⟩) (v := ?_) rfl (by kernel_rfl) (by kernel_rfl) (by kernel_rfl) (fun _ _ _ h => h) (Or.inl ⟨by rfl, ?_⟩) hS0 ?_
          rotate_left
          · (intro w' hSw; obtain ⟨k0, k2, k5, k6, k9, kx, _⟩ := HC.out w' hSw.1; clear hSw; go_simp; try (with_reducible rfl))
          simp only [Act.put, List.setIfInBounds_toArray, List.set_cons_zero, List.set_cons_succ]
          refine wpAnyH_take (i := 2) (oi := ⟨some 84, _, _, _, _, _⟩) (v := ?_) rfl (by kernel_rfl) (by kernel_rfl) (by kernel_rfl) (fun _ _ _ h => h) (Or.inl ⟨by rfl, ?_⟩) hS0 ?_
          rotate_left
          · (intro w' hSw; clear hSw; go_simp; try (with_reducible rfl))
          simp only [Act.put, List.setIfInBounds_toArray, List.set_cons_zero, List.set_cons_succ]
          refine wpAnyH_take (i := 3) (oi := ⟨some 85, _, _, _, _, _⟩) (v := ?_) rfl (by kernel_rfl) (by kernel_rfl) (by kernel_rfl) (fun _ _ _ h => h) (Or.inl ⟨by rfl, ?_⟩) hS0 ?_
          rotate_left
          · (intro w' hSw; clear hSw; go_simp; try (with_reducible rfl))
          simp only [Act.put, List.setIfInBounds_toArray, List.set_cons_zero, List.set_cons_succ]
          refine wpAnyH_take (i := 4) (oi := ⟨some 86, _, _, _, _, _⟩) (v := ?_) rfl (by kernel_rfl) (by kernel_rfl) (by kernel_rfl) (fun _ _ _ h => h) (Or.inl ⟨by rfl, ?_⟩) hS0 ?_
          rotate_left
          · (intro w' hSw; clear hSw; go_simp; try (with_reducible rfl))
          simp only [Act.put, List.setIfInBounds_toArray, List.set_cons_zero, List.set_cons_succ]
          refine wpAnyH_take (i := 5) (oi := ⟨some 87, _, _, _, _, _⟩) (v := ?_) rfl (by kernel_rfl) (by kernel_rfl) (by kernel_rfl) (fun _ _ _ h => h) (Or.inl ⟨by rfl, ?_⟩) hS0 ?_
          rotate_left
          · (intro w' hSw; clear hSw; go_simp; try (with_reducible rfl))
          simp only [Act.put, List.setIfInBounds_toArray, List.set_cons_zero, List.set_cons_succ]
          refine wpAnyH_take (i := 6) (oi := ⟨some 88, _, _, _, _, _⟩) (v := ?_) rfl (by kernel_rfl) (by kernel_rfl) (by kernel_rfl) (fun _ _ _ h => h) (Or.inl ⟨by rfl, ?_⟩) hS0 ?_
          rotate_left
          · (intro w' hSw; clear hSw; go_simp; try (with_reducible rfl))
          simp only [Act.put, List.setIfInBounds_toArray, List.set_cons_zero, List.set_cons_succ]
          refine wpAnyH_take (i := 7) (oi := ⟨some 89, _, _, _, _, _⟩) (v := ?_) rfl (by kernel_rfl) (by kernel_rfl) (by kernel_rfl) (fun _ _ _ h => h) (Or.inl ⟨by rfl, ?_⟩) hS0 ?_
          rotate_left
          · (intro w' hSw; clear hSw; go_simp; try (with_reducible rfl))
          simp only [Act.put, List.setIfInBounds_toArray, List.set_cons_zero, List.set_cons_succ]
          refine wpAnyH_take (i := 8) (oi := ⟨some 90, _, _, _, _, _⟩) (v := ?_) rfl (by kernel_rfl) (by kernel_rfl) (by kernel_rfl) (fun _ _ _ h => h) (Or.inl ⟨by rfl, ?_⟩) hS0 ?_
          rotate_left
          · (intro w' hSw; clear hSw; go_simp; try (with_reducible rfl))
          simp only [Act.put, List.setIfInBounds_toArray, List.set_cons_zero, List.set_cons_succ]
          refine wpAnyH_take (i := 9) (oi := ⟨some 91, _, _, _, _, _⟩) (v := .agg jc) rfl (by kernel_rfl) (by kernel_rfl) (by kernel_rfl) (fun _ _ _ h => h) (yieldsIf_rowN rfl _ _ rfl w.heap.size rfl 29 jc (0, 0) _ (fun _ h => h.1.1) Tryz.underlying29 rfl HIj.out) hS0 ?_
          simp only [Act.put, List.setIfInBounds_toArray, List.set_cons_zero, List.set_cons_succ]
          refine wpAnyH_take (i := 10) (oi := ⟨some 92, _, _, _, _, _⟩) (v := .agg xc) rfl (by kernel_rfl) (by kernel_rfl) (by kernel_rfl) (fun _ _ _ h => h) (yieldsIf_rowN rfl _ _ rfl (w.heap.size + 1) rfl 44 xc (0, 0) _ (fun _ h => h.1.2) Tryz.underlying44 rfl HIx.out) hS0 ?_
          simp only [Act.put, List.setIfInBounds_toArray, List.set_cons_zero, List.set_cons_succ]
          refine wpAnyH_take (i := 11) (oi := ⟨some 93, _, _, _, _, _⟩) (v := ?_) rfl (by kernel_rfl) (by kernel_rfl) (by kernel_rfl) (fun _ _ _ h => h) (Or.inl ⟨by rfl, ?_⟩) hS0 ?_
          rotate_left
          · (intro w' hSw; clear hSw; go_simp; try (with_reducible rfl))
          simp only [Act.put, List.setIfInBounds_toArray, List.set_cons_zero, List.set_cons_succ]
          refine wpAnyH_take (i := 12) (oi := ⟨some 94, _, _, _, _, _⟩) (v := ?_) rfl (by kernel_rfl) (by kernel_rfl) (by kernel_rfl) (fun _ _ _ h => h) (Or.inl ⟨by rfl, ?_⟩) hS0 ?_
          rotate_left
          · (intro w' hSw; clear hSw; go_simp; try (with_reducible rfl))
          simp only [Act.put, List.setIfInBounds_toArray, List.set_cons_zero, List.set_cons_succ]
          refine wpAnyH_take (i := 13) (oi := ⟨some 95, _, _, _, _, _⟩) (v := ?_) rfl (by kernel_rfl) (by kernel_rfl) (by kernel_rfl) (fun _ _ _ h => h) (Or.inl ⟨by rfl, ?_⟩) hS0 ?_
          rotate_left
          · (intro w' hSw; clear hSw; go_simp; try (with_reducible rfl))
          simp only [Act.put, List.setIfInBounds_toArray, List.set_cons_zero, List.set_cons_succ]
          refine wpAnyH_take (i := 14) (oi := ⟨some 96, _, _, _, _, _⟩) (v := ?_) rfl (by kernel_rfl) (by kernel_rfl) (by kernel_rfl) (fun _ _ _ h => h) (Or.inl ⟨by rfl, ?_⟩) hS0 ?_
          rotate_left
          · (intro w' hSw; clear hSw; go_simp; try (with_reducible rfl))
          simp only [Act.put, List.setIfInBounds_toArray, List.set_cons_zero, List.set_cons_succ]
          refine wpAnyH_take (i := 15) (oi := ⟨some 97, _, _, _, _, _⟩) (v := ?_) rfl (by kernel_rfl) (by kernel_rfl) (by kernel_rfl) (fun _ _ _ h => h) (Or.inl ⟨by rfl, ?_⟩) hS0 ?_
          rotate_left
          · (intro w' hSw; have kp := hSw.2; clear hSw; go_simp; try (with_reducible rfl))
          simp only [Act.put, List.setIfInBounds_toArray, List.set_cons_zero, List.set_cons_succ]
          refine wpAnyH_take (i := 16) (oi := ⟨some 98, _, _, _, _, _⟩) (v := ?_) rfl (by kernel_rfl) (by kernel_rfl) (by kernel_rfl) (fun _ _ _ h => h) (Or.inl ⟨by rfl, ?_⟩) hS0 ?_
          rotate_left
          · (intro w' hSw; clear hSw; go_simp; try (with_reducible rfl))
          simp only [Act.put, List.setIfInBounds_toArray, List.set_cons_zero, List.set_cons_succ]
          refine wpAnyH_take (i := 17) (oi := ⟨some 99, _, _, _, _, _⟩) (v := ?_) rfl (by kernel_rfl) (by kernel_rfl) (by kernel_rfl) (fun _ _ _ h => h) (Or.inl ⟨by rfl, ?_⟩) hS0 ?_
          rotate_left
          · (intro w' hSw; clear hSw; go_simp; try (with_reducible rfl))
          simp only [Act.put, List.setIfInBounds_toArray, List.set_cons_zero, List.set_cons_succ]
          refine wpAnyH_all (rs := [18]) (by kernel_rfl) (by simp) ?_
          intro i hi
          rw [List.mem_singleton] at hi
          subst hi
          refine wpOp_runW (o := ⟨some 100, _, _, _, _, _⟩) rfl rfl fun K' hK => ?_
          go_simp
          refine (HAc2.out _ B11.out).mono ?_
          rintro e w12 ⟨rfl, hB⟩
          have hS1 : NRows w.heap.size (w.heap.size + 1) jc xc w12 ∧ w12.cell? ⟨pb0, po0 + d, none⟩ = some (.int .u32 (pv : Nat)) := ⟨hS0.1.ext hB, HPc.out _ (Bo.out.trans ((B11.out.trans (hB.mono B11.out.size)).mono Bo.out.size))⟩
          have S12 := Lib.hid hS1.1
          have B12 := Lib.hid (B11.out.trans (hB.mono B11.out.size))
          clear hS0 hB
          have hS0 := hS1
          clear hS1
          refine hK _ _ ⟨hS0, ?_⟩
          clear hK K'
          try simp only [Act.put, List.setIfInBounds_toArray, List.set_cons_zero, List.set_cons_succ]
          refine wpAnyH_take (i := 19) (oi := ⟨some 101, _, _, _, _, _⟩) (v := ?_) rfl (by kernel_rfl) (by kernel_rfl) (by kernel_rfl) (fun _ _ _ h => h) (Or.inl ⟨by rfl, ?_⟩) hS0 ?_
          rotate_left
          · (intro w' hSw; clear hSw; go_simp; try (with_reducible rfl))
          simp only [Act.put, List.setIfInBounds_toArray, List.set_cons_zero, List.set_cons_succ]
          refine wpAnyH_done (by kernel_rfl) ?_ _
          clear hS0 HAc2 HPc
          have BW12 := Lib.hid (Bo.out.trans (B12.out.mono Bo.out.size))
          have BE12 := Lib.hid (Eo.out.trans (B12.out.mono Eo.out.size))
          cases bt with
          | true =>
            have Hv := Lib.hid (Hst.out cv Htw.out)
            go_wp2_with fail
            go_ret2
            exact ⟨by rw [Hv.out]; rfl, BW12.out⟩
          | false =>
            have hnt := Lib.hid (Hnt.out Htw.out)
            go_wp2_with fail
            go_roundw
            case rel => exact ⟨t + 1, by omega, by go_num, hnt.out, BE12.out⟩
            case measure => simp [intOf]; omega
        · obtain rfl : t = j.tries := by omega
          have d : decide ((j.tries : Int) < (j.tries : Int)) = false := by simp
          have d' : decide (j.tries < j.tries) = false := by simp
          have hnn : nextW R j id path = none := by
            rw [Hnx.out, ← Htr.out, Nat.sub_self]; rfl
          have Hv := Lib.hid hnn
          clear hnn
          go_wp2_with fail
          go_ret2
          exact ⟨by rw [Hv.out]; rfl, Bo.out⟩
end Go.Proofs.YtcklfffeimnfeaaGreat
