/- WalkAll: the walk. -/
import Derived.Test.YtcklfffeimnfeaaGreatRefPath
import Derived.Test.YtcklfffeimnfeaaGreatAllI
import Derived.Test.YtcklfffeimnfeaaGreatBx13
set_option maxRecDepth 100000
set_option maxHeartbeats 12800000
set_option linter.unusedSimpArgs false
set_option linter.unusedVariables false
namespace Go.Proofs.YtcklfffeimnfeaaGreat
open Go.RowKit

theorem okG_anyA {l : List EdgeD} (hok : ∀ x ∈ l, okE x) : okG (ofM l).1 := by
  by_cases h : (ofM l).2 = 0
  · exact of_fit hok h
  · rcases ofM_cases l hok with ⟨_, h2⟩ | ⟨_, _, h2⟩ | ⟨_, _, R, h2, _⟩
    · rw [h2]; exact ⟨⟨.nil, fun r hr => by cases hr⟩, fun r hr => by cases hr⟩
    · rw [h2]; exact ⟨⟨.nil, fun r hr => by cases hr⟩, fun r hr => by cases hr⟩
    · rw [h2] at h; exact absurd rfl h
/-- the law's own blocks: the job, k, the result -/
def AB (s : Nat) (jc : Array Value) (K : Nat) (W : World) : Prop := W.heap[s]? = some (.cells jc 29 (0, 0)) ∧ W.heap[s + 1]? = some (.cells #[.int .u8 (K : Nat)] 5 (0, 0)) ∧ W.heap[s + 1 + 1]? = some (.cells #[.bool false] 4 (0, 0))
theorem AB.ext {s : Nat} {jc : Array Value} {K : Nat} {W W' : World} (h : AB s jc K W) (hB : Below W.heap.size W W') : AB s jc K W' := ⟨heap_keep h.1 hB, heap_keep h.2.1 hB, heap_keep h.2.2 hB⟩
theorem AB.only {s : Nat} {jc : Array Value} {K : Nat} {fp : Nat → Prop} {W W' : World} (h : AB s jc K W) (hO : Only fp W W') (h0 : ¬ fp s) (h1 : ¬ fp (s + 1)) (h2 : ¬ fp (s + 1 + 1)) : AB s jc K W' :=
  ⟨(hO.same _ (Array.getElem?_eq_some_iff.1 h.1).1 h0).trans h.1, (hO.same _ (Array.getElem?_eq_some_iff.1 h.2.1).1 h1).trans h.2.1, (hO.same _ (Array.getElem?_eq_some_iff.1 h.2.2).1 h2).trans h.2.2⟩
theorem AB.k {s : Nat} {jc : Array Value} {K : Nat} {W : World} (h : AB s jc K W) : W.cell? ⟨s + 1, 0, none⟩ = some (.int .u8 (K : Nat)) := cell_of_row W _ 0 _ _ (0, 0) h.2.1
theorem AB.r {s : Nat} {jc : Array Value} {K : Nat} {W : World} (h : AB s jc K W) : W.cell? ⟨s + 1 + 1, 0, none⟩ = some (.bool false) ∧ W.frozen? ⟨s + 1 + 1, 0, none⟩ = false := ⟨cell_of_row W _ 0 _ _ (0, 0) h.2.2, frozen_of_row W _ 0 _ _ h.2.2⟩
section
variable {F : Fence} {n : Nat} {P : Program} {ops : Array Oper} {rest : List Oper} {o : Oper} {a : Act} {w : World} {Q : Exit → Act → World → Prop}
theorem wpListIn_load_rowg22 (hw : Region.wanted o (yielded ops a.tmps) = true) (ty : TypeId) (x : Operand) (ho : o.op = .load ty x)
    (g : Nat) (hx : a.eval x = .pointer (some ⟨g, 0, none⟩)) (t : TypeId) (cs : Array Value) (fr : Nat × Nat) (d : TypeDesc) (hg : w.heap[g]? = some (.cells cs t fr))
    (hu : P.underlying ty = some d) (hd : (match d with | .struct _ | .array _ _ => true | _ => false) = true) (hi : (P.info? ty).map (·.size) = some cs.size)
    (h : wpListIn F n P ops Q rest (a.put o.dst (.agg cs)) w) : wpListIn F n P ops Q (o :: rest) a w := by
  refine wpListIn_step fun K hK => ?_
  rw [if_pos hw]
  refine ⟨fun f hf => ?_, ?_⟩
  · simp [Oper.about, ho] at hf
  · have hs : (o.semAt F.round a.eval).run P w = .ok (.value (.agg cs)) w := by
      rw [Oper.semAt_eq _ _ _ (fun c h => by rw [ho] at h; cases h)]
      unfold execOp
      simp only [ho, hx, Instr.loadAt, Instr.sureAddr, Sem.run_bind, Sem.run_pure, Result.andThen_ok, run_loadVar_row w g t ty cs fr d hg hu hd hi]
    rw [hs, Oper.uponIn_value]
    exact hK _ _ h
end
theorem leaveM22 {P : Program} {fn : Func} {tmps : Array Value} {R : Ending → World → Prop} {W : World} {v : Value} (hr : (results fn tmps).run P W = .ok v W) (hR : R (.returned v) W) :
    bodyPostM Fence.wide 0 P fn R .ret { tmps := tmps, defers := [] } W := ⟨v, hr, hR⟩
theorem wp_calm22 {P : Program} {c : Code} {Q : Exit → Act → World → Prop} {a : Act} {w : World} (h : c.wp P (fun e a w => e = .normal ∧ Q .normal a w) a w) : c.wp P Q a w := wp_mono h (by rintro e a w ⟨rfl, h⟩; exact h)
/-- what is read behind the range -/
def ES (s nb K nn : Nat) (jc : Array Value) (W : World) : Prop := W.heap[s]? = some (.cells jc 29 (0, 0)) ∧ W.cell? ⟨s + 1, 0, none⟩ = some (.int .u8 (K : Nat)) ∧ W.cell? ⟨nb, 0, none⟩ = some (.int .u32 (nn : Nat))
theorem ES.ext {s nb K nn : Nat} {jc : Array Value} {W W' : World} (h : ES s nb K nn jc W) (hB : Below W.heap.size W W') : ES s nb K nn jc W' := ⟨heap_keep h.1 hB, ((bcell hB).1 _ _ (block_lt_of_cell h.2.1)).trans h.2.1, ((bcell hB).1 _ _ (block_lt_of_cell h.2.2)).trans h.2.2⟩
theorem ES.set {s nb K nn b : Nat} {v : Value} {jc : Array Value} {W : World} (h : ES s nb K nn jc W) (h0 : s ≠ b) (h1 : s + 1 ≠ b) (h2 : nb ≠ b) : ES s nb K nn jc (W.setCell ⟨b, 0, none⟩ v) :=
  ⟨(Below.heap_setCell _ _ _ _ h0).trans h.1, (World.cell?_of_block (w := W) (Below.heap_setCell _ _ _ _ h1)).trans h.2.1, (World.cell?_of_block (w := W) (Below.heap_setCell _ _ _ _ h2)).trans h.2.2⟩
/-- so many have been met -/
def anI (nb K : Nat) (pre : List AllG) (fq : Nat → Prop) (W : World) : Prop := W.cell? ⟨nb, 0, none⟩ = some (.int .u32 (pre.length : Nat)) ∧ W.frozen? ⟨nb, 0, none⟩ = false ∧ fq nb ∧ pre.length ≤ K
def anX (nb K : Nat) (c : Code) (pre : List AllG) (fq : Nat → Prop) (W : World) : Prop := c = .exit 0 ∧ W.cell? ⟨nb, 0, none⟩ = some (.int .u32 (pre.length : Nat)) ∧ fq nb ∧ pre.length = K + 1
attribute [local go_sem] Oper.semAt_some
theorem all22_walk (l : List EdgeD) (eo : Option Addr) (ec : Nat) (fp : Nat → Prop) (j : JobD) (hj : JobOk j) (so : Option Addr) (sc K : Nat) (hK : K ≤ 255)
    (w : World) (hsrc : Rd w so j.src.length (u32s j.src)) (hrd : RdS edgeRep fp w eo l) :
    Calls Tryz.prog 9 #[.slice eo l.length ec, .agg (jobCs j so sc), .int .u8 (K : Nat)] w (RetB (.bool true) w) := by
  have hq : ∀ (fn : Fn) (a b : Array Value) (w : World), (binOp .eql 55 (.func fn a b) .nilFunc).run Tryz.prog w = .ok (.bool false) w := fun _ _ _ _ => by kernel_rfl
  have HA := Lib.hid awake22_any
  obtain ⟨jc, hjc⟩ : ∃ jc, jobCs j so sc = jc := ⟨_, rfl⟩
  have B1 := Lib.hid (show Below w.heap.size w (((w.alloc (.cells jc 29)).alloc (.cells #[.int .u8 (K : Nat)] 5)).alloc (.cells #[.bool false] 4)) from ((ext_alloc w _).alloc (by simp) _).alloc (by simp; omega) _)
  have A1 := Lib.hid (show AB w.heap.size jc K (((w.alloc (.cells jc 29)).alloc (.cells #[.int .u8 (K : Nat)] 5)).alloc (.cells #[.bool false] 4)) from
    ⟨(Below.heap_alloc _ _ _ (by simp; omega)).trans (heap_alloc2_old _ _ _), (Below.heap_alloc _ _ _ (by simp)).trans (heap_alloc2_new _ _ _), by
      have h := heap_alloc_new ((w.alloc (.cells jc 29)).alloc (.cells #[.int .u8 (K : Nat)] 5)) (.cells #[.bool false] 4)
      simpa using h⟩)
  have HGj := Lib.hid (fun W => hjc ▸ great22_any j hj so sc W)
  have HIj := Lib.hid (hjc ▸ jb_info2 j so sc)
  have r1 := A1.out.r
  rw [hjc]
  by_cases c1 : 60 < l.length
  · have d1 : decide ((60 : Int) < (l.length : Int)) = true := by simp; omega
    have d1' : decide (60 < l.length) = true := by simp; omega
    refine (callsIn_wide (n := 0)).1 (callsIn_of_wp_marks Tryz.func9 rfl trivial ?_)
    simp only [Tryz.ntmps9, List.size_toArray, List.length_cons, List.length_nil, Nat.reduceAdd, Nat.reduceSub, Array.replicate_succ, Array.replicate_zero, List.push_toArray, List.append_toArray, List.nil_append, List.cons_append]
    gi_wp2_with (gi_at_call 12; refine (callsIn_wide.2 (HA.out _)).mono ?_; rintro e w9 ⟨rfl, hB⟩; have A9 := Lib.hid (A1.out.ext hB); have r9 := (A1.out.ext hB).r; have B9 := Lib.hid (B1.out.trans (hB.mono B1.out.size)); clear hB)
    have r91 := r9.1
    have r92 := r9.2
    refine leaveM22 (v := .bool true) ?_ ⟨rfl, B9.out.setCell (by simp; omega) _⟩
    simp [results, Tryz.results9, go_sem, r91, r92, ↓IntWalk.iteOmega]
  have d1 : decide ((60 : Int) < (l.length : Int)) = false := by simp; omega
  have d1' : decide (60 < l.length) = false := by simp; omega
  cases hgj : greatW j with
  | true =>
    rw [hgj] at HGj
    refine (callsIn_wide (n := 0)).1 (callsIn_of_wp_marks Tryz.func9 rfl trivial ?_)
    simp only [Tryz.ntmps9, List.size_toArray, List.length_cons, List.length_nil, Nat.reduceAdd, Nat.reduceSub, Array.replicate_succ, Array.replicate_zero, List.push_toArray, List.append_toArray, List.nil_append, List.cons_append]
    gi_wp2_with (first
    | (refine wpListIn_load_rowg22 rfl _ _ rfl w.heap.size rfl 29 jc (0, 0) _ A1.out.1 Tryz.underlying29 rfl HIj.out ?_)
    | (gi_at_call 11; refine (callsIn_wide.2 (HGj.out _)).mono ?_; rintro e w2 ⟨rfl, hB⟩; have A2 := Lib.hid (A1.out.ext hB); have B2 := Lib.hid (B1.out.trans (hB.mono B1.out.size)); clear hB)
    | (gi_at_call 12; refine (callsIn_wide.2 (HA.out _)).mono ?_; rintro e w9 ⟨rfl, hB⟩; have A9 := Lib.hid (A2.out.ext hB); have r9 := (A2.out.ext hB).r; have B9 := Lib.hid (B2.out.trans (hB.mono B2.out.size)); clear hB))
    have r91 := r9.1
    have r92 := r9.2
    refine leaveM22 (v := .bool true) ?_ ⟨rfl, B9.out.setCell (by simp; omega) _⟩
    simp [results, Tryz.results9, go_sem, r91, r92, ↓IntWalk.iteOmega]
  | false =>
  rw [hgj] at HGj
  have hg1 := greatW_no hgj
  have hsl : j.src.length ≤ 1000000 := by omega
  have hokL := hrd.okEs
  have hlen := ofM_len l
  have HOf := Lib.hid (fun W (h : Below w.heap.size w W) => gof_any l eo ec fp W (by omega) hokL (hrd.ext h))
  have HRf := Lib.hid (fun W (h : Below w.heap.size w W) => rof15_any l eo ec fp W (by omega) (hrd.ext h))
  have hR : okG (ofM l).1 := okG_anyA hokL
  obtain ⟨r, hre⟩ : ∃ r, ofM l = r := ⟨_, rfl⟩
  rw [hre] at HOf HRf hlen hR
  obtain ⟨R, er⟩ := r
  simp only at hR hlen
  by_cases her : er ≠ 0
  · have de : ((er : Int) != 0) = true := by simp; omega
    have de' : (er != 0) = true := by simp; omega
    clear hR
    refine (callsIn_wide (n := 0)).1 (callsIn_of_wp_marks Tryz.func9 rfl trivial ?_)
    simp only [Tryz.ntmps9, List.size_toArray, List.length_cons, List.length_nil, Nat.reduceAdd, Nat.reduceSub, Array.replicate_succ, Array.replicate_zero, List.push_toArray, List.append_toArray, List.nil_append, List.cons_append]
    gi_wp2_with (first
    | (refine wpListIn_load_rowg22 rfl _ _ rfl w.heap.size rfl 29 jc (0, 0) _ A1.out.1 Tryz.underlying29 rfl HIj.out ?_)
    | (gi_at_call 11; refine (callsIn_wide.2 (HGj.out _)).mono ?_; rintro e w2 ⟨rfl, hB⟩; have A2 := Lib.hid (A1.out.ext hB); have B2 := Lib.hid (B1.out.trans (hB.mono B1.out.size)); clear hB)
    | (gi_at_call 13; refine (callsIn_wide.2 (HRf.out _ B2.out)).mono ?_; rintro e w3 ⟨ra, rc, rfl, _, _, hrr, hB⟩; have RR3 := Lib.hid hrr; have A3 := Lib.hid (A2.out.ext hB); have B3 := Lib.hid (B2.out.trans (hB.mono B2.out.size)); have k3 := A3.out.r; clear hB hrr)
    | (gi_at_call 12; refine (callsIn_wide.2 (HA.out _)).mono ?_; rintro e w9 ⟨rfl, hB⟩; have A9 := Lib.hid ((A3.out.ext (ext_alloc w3 _)).ext hB); have r9 := A9.out.r; have B9 := Lib.hid ((B3.out.alloc B3.out.size _).trans (hB.mono (Nat.le_trans B3.out.size (ext_alloc w3 _).size))); clear hB))
    have r91 := r9.1
    have r92 := r9.2
    refine leaveM22 (v := .bool true) ?_ ⟨rfl, B9.out.setCell (by simp; omega) _⟩
    simp [results, Tryz.results9, go_sem, r91, r92, ↓IntWalk.iteOmega]
  obtain rfl : er = 0 := Decidable.of_not_not her
  have hwk : walkersJ j ≤ 60 := by
    unfold walkersJ
    split
    · exact hg1.2.2.2.2
    · omega
  have hRl : R.length ≤ 1000 := by omega
  have hRa : ∀ r ∈ R, r.2.length ≤ 1000 := fun r hr => by have := hlen.1 r hr; omega
  have HQp := Lib.hid (fun (id : Nat) (hid : id < 4294967296) ro rc rfp W (hr : RdS rowRep rfp W ro R) (hB : Below w.heap.size w W) => hjc ▸ rpath22_any R ro rc rfp hR hRl hRa j hj so sc id hid hsl (by omega) W (hsrc.ext hB) hr)
  have HIt := Lib.hid (fun bj bg p gfp => all_iter bj bg p R gfp hR hRl hRa j hj so sc hsl hwk)
  have HWk := Lib.hid (fun W (h : Below w.heap.size w W) => (show Calls Tryz.prog 22 #[.agg jc] W (RetB (.int .u32 (walkersJ j : Nat)) W) from hjc ▸ rwalkers_any j hj so sc W hsl (hsrc.ext h)))
  have Hsrc := Lib.hid hsrc
  clear hR hre hrd her hsrc
  refine (callsIn_wide (n := 0)).1 (callsIn_of_wp_marks Tryz.func9 rfl trivial ?_)
  simp only [Tryz.ntmps9, List.size_toArray, List.length_cons, List.length_nil, Nat.reduceAdd, Nat.reduceSub, Array.replicate_succ, Array.replicate_zero, List.push_toArray, List.append_toArray, List.nil_append, List.cons_append]
  gi_wp2_with (first
    | (refine wpListIn_load_rowg22 rfl _ _ rfl w.heap.size rfl 29 jc (0, 0) _ A1.out.1 Tryz.underlying29 rfl HIj.out ?_)
    | (gi_at_call 11; refine (callsIn_wide.2 (HGj.out _)).mono ?_; rintro e w2 ⟨rfl, hB⟩; have A2 := Lib.hid (A1.out.ext hB); have B2 := Lib.hid (B1.out.trans (hB.mono B1.out.size)); clear hB)
    | (gi_at_call 13; refine (callsIn_wide.2 (HRf.out _ B2.out)).mono ?_; rintro e w3 ⟨ra, rc, rfl, _, _, hrr, hB⟩; have RR3 := Lib.hid hrr; have A3 := Lib.hid (A2.out.ext hB); have B3 := Lib.hid (B2.out.trans (hB.mono B2.out.size)); have k3 := A3.out.r; clear hB hrr)
    | (refine wpListIn_load_row22 rfl _ _ rfl w.heap.size rfl 29 jc (0, 0) _ A4.out.1 Tryz.underlying29 rfl HIj.out ?_)
    | (gi_at_call 14; refine (callsIn_wide.2 (HOf.out _ (B3.out.alloc B3.out.size _))).mono ?_; rintro e w4 ⟨p, rfl, _, _, hG, hB⟩; have A4 := Lib.hid ((A3.out.ext (ext_alloc w3 _)).ext hB); have R4 := Lib.hid (heap_keep (heap_alloc_new w3 (.cells #[.slice ra R.length rc] 32)) hB); have RR4 := Lib.hid ((RR3.out.ext (ext_alloc w3 _)).ext hB); have B4 := Lib.hid ((B3.out.alloc B3.out.size _).trans (hB.mono (Nat.le_trans B3.out.size (ext_alloc w3 _).size))); have G4 := Lib.hid (hG.mono (fp' := fun k => k < w4.heap.size) (fun b h hl => hl)); have hz4 := hB.size; clear hG hB)
    | (gi_at_call 21; refine (callsIn_wide.2 (all_any _ _ _)).mono ?_; rintro e w5 ⟨rfl, rfl⟩))
  obtain ⟨w5, hw5⟩ : ∃ w5, ((w4.alloc (.cells #[Value.pointer (Option.map (fun a => { block := a, off := 0 }) p)] 35)).alloc (.cells jc 29)).alloc (.cells #[.int .u32 0] 24) = w5 := ⟨_, rfl⟩
  have hs5 : w5.heap.size = w4.heap.size + 1 + 1 + 1 := by rw [← hw5]; simp
  have hB5 : Below w4.heap.size w4 w5 := by rw [← hw5]; exact ((ext_alloc w4 _).alloc (by simp) _).alloc (by simp; omega) _
  have cg5 : w5.cell? ⟨w4.heap.size, 0, none⟩ = some (gV p) := by rw [← hw5]; unfold gV; simp [go_sem, ↓IntWalk.iteOmega]
  have cj5 : w5.heap[w4.heap.size + 1]? = some (.cells jc 29 (0, 0)) := by rw [← hw5]; exact (Below.heap_alloc _ _ _ (by simp)).trans (heap_alloc2_new _ _ _)
  have hnr5 : w5.heap[w4.heap.size + 1 + 1]? = some (.cells #[.int .u32 0] 24 (0, 0)) := by
    rw [← hw5]
    have h := heap_alloc_new ((w4.alloc (.cells #[Value.pointer (Option.map (fun a => { block := a, off := 0 }) p)] 35)).alloc (.cells jc 29)) (.cells #[.int .u32 0] 24)
    simpa using h
  rw [hw5]
  clear hw5
  have hw4 : w.heap.size + 1 + 1 < w4.heap.size := (Array.getElem?_eq_some_iff.1 A4.out.2.2).1
  have hw3 : w3.heap.size < w4.heap.size := (Array.getElem?_eq_some_iff.1 R4.out).1
  have HAll := Lib.hid (show AllW (w4.heap.size + 1) w4.heap.size p R (fun k => k < w4.heap.size) j so sc w5 from ⟨hjc ▸ cj5, cg5, G4.out.ext hB5, Hsrc.out.ext (B4.out.trans (hB5.mono B4.out.size)), fun k hk => by have : k < w4.heap.size := hk; omega⟩)
  have HI0 := Lib.hid (show anI (w4.heap.size + 1 + 1) K [] (fun k => k = w4.heap.size + 1 + 1) w5 from ⟨cell_of_row w5 _ 0 _ _ (0, 0) hnr5, frozen_of_row w5 _ 0 _ _ hnr5, rfl, Nat.zero_le _⟩)
  have A5 := Lib.hid (A4.out.ext hB5)
  have B5 := Lib.hid (B4.out.trans (hB5.mono B4.out.size))
  have R5 := Lib.hid (heap_keep R4.out hB5)
  have HB5 := Lib.hid hB5
  have hsb : ∀ k, sfp so j.src.length k → k < w.heap.size := fun k hk => by
    obtain ⟨h0, off, e⟩ := hk
    obtain ⟨b, o, e2, h2, _⟩ := Hsrc.out.pos h0
    rw [e] at e2
    cases e2
    exact h2
  clear cg5 cj5 hnr5 hB5 A1 A2 A3 B1 B2 B3 RR3 R4 G4 r1 k3 HGj HOf HRf
  refine wpIn_rangeTS (gf := 41) (lb := #[.pointer (some ⟨w4.heap.size + 1, 0, none⟩), .pointer (some ⟨w4.heap.size, 0, none⟩)]) rfl (enters_of Tryz.func41 (by kernel_rfl) rfl) (HIt.out _ _ p (fun k => k < w4.heap.size)) (fun _ => rfl)
    (fun k => k = w4.heap.size + 1 + 1) ?hfp ?hrs (fun k h => h.elim)
    (fun pre fq W => anI (w4.heap.size + 1 + 1) K pre fq W) (fun c pre fq W => anX (w4.heap.size + 1 + 1) K c pre fq W) ?hI ?hIx (fun _ _ _ _ => trivial) ?hPre HI0.out
    [(42, fun x : AllG => .int .u32 (x.1.1 : Nat)), (43, fun x => .slice x.2.1 x.1.2.length x.2.2), (13, fun x => .int .u32 (x.1.1 : Nat)), (14, fun x => .slice x.2.1 x.1.2.length x.2.2)] ?assign ?body ?done ?stop
  case hfp =>
    rintro k rfl
    refine ⟨by omega, fun h => ?_⟩
    rcases h with h | h | h | h
    · omega
    · omega
    · have : w4.heap.size + 1 + 1 < w4.heap.size := h; omega
    · have := hsb _ h; omega
  case hrs =>
    rintro k (h | h | h | h)
    · omega
    · omega
    · have : k < w4.heap.size := h; omega
    · have := hsb _ h; omega
  case hI =>
    rintro pre fq A B ⟨h1, h2, h3, h4⟩ hs
    exact ⟨(hs.cell h3 0).trans h1, (hs.frozen h3 0).trans h2, h3, h4⟩
  case hIx =>
    rintro c pre fq A B ⟨rfl, h1, h3, h4⟩ hs
    exact ⟨rfl, (hs.cell h3 0).trans h1, h3, h4⟩
  case hPre =>
    intro W hb
    exact HAll.out.only (fp := fun _ => False) (Only.of_below hb) (fun _ _ h => h)
  case assign =>
    intro l x W K hK
    rw [show encA x = #[.int .u32 (x.1.1 : Nat), .slice x.2.1 x.1.2.length x.2.2] from rfl]
    gi_wp2
    exact hK
  case body =>
    rintro l0 pre fq tp x W Wy hl0 hr0 honly hokk ⟨⟨gx, hxo, hxt⟩, hxr⟩ ho0 hnl hflt htp ⟨h1, h2, h3, h4⟩ hsz
    simp only [List.foldl_cons, List.foldl_nil, List.setIfInBounds_toArray, List.set_cons_zero, List.set_cons_succ]
    obtain ⟨⟨xi, xp⟩, ax, cx⟩ := x
    simp only at hxo hxr
    have hlt : pre.length < walkersJ j := by
      have := (List.getElem?_eq_some_iff.1 hxr).1
      rw [allP_len] at this
      exact this
    rw [allP_at hlt] at hxr
    obtain ⟨rfl, rfl⟩ := Prod.mk.inj (Option.some.inj hxr)
    have hxl : ∀ b, gx = some b → b ≠ l0 := fun b hb => (htp b ((hxt b).2 hb)).2.2.2
    have HX := Lib.hid (hxo.only ho0 (fun b hb e => hxl b hb e))
    have AW := Lib.hid (A5.out.only honly (by rintro (h | h) <;> omega) (by rintro (h | h) <;> omega) (by rintro (h | h) <;> omega))
    have BW := Lib.hid (B5.out.trans (honly.below B5.out.size (by rintro k hk (h | h) <;> omega)))
    have RW := Lib.hid (RR4.out.only ((Only.of_below (fp := fun k => k = w4.heap.size + 1 + 1) HB5.out).trans honly (by rintro i hi (h | h) <;> first | exact h | exact h.elim)) (fun b _ hl e => by omega))
    have hrc : W.cell? ⟨w3.heap.size, 0, none⟩ = some (.slice ra R.length rc) := (honly.cell (by omega) (by rintro (h | h) <;> omega) 0).trans (cell_of_row w5 _ 0 _ _ (0, 0) R5.out)
    have ck := AW.out.k
    have hFl : (pathW R j pre.length).length ≤ 21 := by
      unfold pathW
      split
      · have h1 := (walk_pre R j pre.length j.length [(newJ j pre.length).at_]).2
        rw [List.length_singleton] at h1; omega
      · simp
    have HQ := Lib.hid (HQp.out pre.length (by omega) ra rc _ W RW.out BW.out)
    obtain ⟨F, hF⟩ : ∃ F, pathW R j pre.length = F := ⟨_, rfl⟩
    have HF := Lib.hid hF
    rw [hF] at HX HQ hFl ⊢
    obtain ⟨n, hn⟩ : ∃ n, pre.length = n := ⟨_, rfl⟩
    rw [hn] at h1 h4 hlt hF HQ ⊢
    have Hn := Lib.hid hn
    have Hflt := Lib.hid hflt
    have hnW : w4.heap.size + 1 + 1 < W.heap.size := Nat.lt_of_lt_of_le (by omega) hsz
    have hfr := h2
    dsimp only
    clear hF hn hokk hxr hxt hxo hxl ho0 hnl htp hflt honly hr0 HIt h2
    by_cases hKm : K < n + 1
    · obtain rfl : K = n := by omega
      clear hKm
      gi_wp2_with (first
        | (refine wpListIn_load_rowg22 rfl _ _ rfl w.heap.size rfl 29 jc (0, 0) _ AW.out.1 Tryz.underlying29 rfl HIj.out ?_)
        | (gi_at_call 17; refine (CallsIn.inRound l0 (callsIn_wide.2 HQ.out)).mono ?_; rintro e w8 ⟨a8, c8, g8, rfl, ho8, _, hB8⟩; have O8 := Lib.hid ho8; have X8 := Lib.hid (HX.out.ext hB8); have E8 := Lib.hid hB8; clear ho8 hB8)
        | (gi_at_call 15; refine (CallsIn.inRound l0 (callsIn_wide.2 (vsame15_any F ax a8 cx c8 w8 (by omega) X8.out.rd O8.out.rd))).mono ?_; rintro e w9 ⟨rfl, hw9⟩; have hb89 : Below w8.heap.size w8 w9 := (hw9.elim fun q h => h.symm ▸ ext_drewN w8 q); have hB9 : Below W.heap.size W w9 := E8.out.trans (hb89.mono E8.out.size); have n9 := ((bcell hB9).1 (w4.heap.size + 1 + 1) 0 hnW).trans h1; have f9 := ((bcell hB9).2 (w4.heap.size + 1 + 1) 0 hnW).trans hfr; have kk9 := ((AW.out.ext hB9)).k; have hz9 := hB9.size; have E9 := Lib.hid hB9; clear hB9 hw9 hb89))
      have hn9 := Hn.out
      have hz9' := hz9
      refine ⟨fq, ⟨(Only.of_below E9.out).setCell (fun _ => h3) _, fun b hb => ⟨.inl hb, by have := Hflt.out b hb; simp; omega⟩⟩, rfl, ?_, h3, by simp [hn9]⟩
      simp [cell_set_ite, n9, hn9]
    · have k1 : decide ((K : Int) < (n : Int) + 1) = false := by simp; omega
      have k1' : decide (K < n + 1) = false := decide_eq_false hKm
      have hKn : n + 1 ≤ K := by omega
      clear hKm
      gi_wp2_with (first
        | (refine wpListIn_load_rowg22 rfl _ _ rfl w.heap.size rfl 29 jc (0, 0) _ AW.out.1 Tryz.underlying29 rfl HIj.out ?_)
        | (gi_at_call 17; refine (CallsIn.inRound l0 (callsIn_wide.2 HQ.out)).mono ?_; rintro e w8 ⟨a8, c8, g8, rfl, ho8, _, hB8⟩; have O8 := Lib.hid ho8; have X8 := Lib.hid (HX.out.ext hB8); have E8 := Lib.hid hB8; clear ho8 hB8)
        | (gi_at_call 15; refine (CallsIn.inRound l0 (callsIn_wide.2 (vsame15_any F ax a8 cx c8 w8 (by omega) X8.out.rd O8.out.rd))).mono ?_; rintro e w9 ⟨rfl, hw9⟩; have hb89 : Below w8.heap.size w8 w9 := (hw9.elim fun q h => h.symm ▸ ext_drewN w8 q); have hB9 : Below W.heap.size W w9 := E8.out.trans (hb89.mono E8.out.size); have n9 := ((bcell hB9).1 (w4.heap.size + 1 + 1) 0 hnW).trans h1; have f9 := ((bcell hB9).2 (w4.heap.size + 1 + 1) 0 hnW).trans hfr; have kk9 := ((AW.out.ext hB9)).k; have hz9 := hB9.size; have E9 := Lib.hid hB9; clear hB9 hw9 hb89))
      have hn9 := Hn.out
      refine ⟨fq, ⟨(Only.of_below E9.out).setCell (fun _ => h3) _, fun b hb => ⟨.inl hb, by have := Hflt.out b hb; simp; omega⟩⟩, ?_, by rw [World.frozen?_setCell]; exact f9, h3, by simp [hn9]; omega⟩
      simp [cell_set_ite, n9, hn9]
  case done =>
    rintro D xs fq W hD hxs ⟨h1, h2, h3, h4⟩ honly hfo hlt hnD hk2
    have hxl : xs.length = walkersJ j := by
      have := congrArg List.length hxs
      rw [List.length_map, allP_len] at this
      exact this
    rw [hxl] at h1 h4
    have hmn : min ((K : Int) + 1) (walkersJ j : Int) = (walkersJ j : Int) := Int.min_eq_right (by omega)
    obtain ⟨wk, hwke⟩ : ∃ wk, walkersJ j = wk := ⟨_, rfl⟩
    rw [hwke] at h1 h4 hmn HWk
    have hnn : True := trivial
    have A6 := Lib.hid (A5.out.only honly (by rintro (h | h) <;> omega) (by rintro (h | h) <;> omega) (by rintro (h | h) <;> omega))
    have BW := Lib.hid (B5.out.trans (honly.below B5.out.size (by rintro k hk (h | h) <;> omega)))
    have hsW := honly.size
    have hDW : D < W.heap.size := (Array.getElem?_eq_some_iff.1 hk2).1
    have hnW : w4.heap.size + 1 + 1 < W.heap.size := by omega
    have Hk := Lib.hid hk2
    have hWs := BW.out.size
    clear honly hfo hlt hnD hk2 HIt hnn hwk
    dsimp only
    have u1 : IntKind.u32.wrap (K : Int) = (K : Int) := IntWalk.u32_in _ (by omega)
    have u2 : IntKind.u32.wrap ((K : Int) + 1) = (K : Int) + 1 := IntWalk.u32_in _ (by omega)
    gi_wp2_with fail
    refine wpIn_wide.2 (wp_calm22 ?_)
    refine wp_region_held (S := ES w.heap.size (w4.heap.size + 1 + 1) K wk jc) (by kernel_rfl) ?_
    have hS0 : ES w.heap.size (w4.heap.size + 1 + 1) K wk jc W.drew := (show ES w.heap.size (w4.heap.size + 1 + 1) K wk jc W from ⟨A6.out.1, A6.out.k, h1⟩).ext (ext_drew W)
    have E0 := Lib.hid (ext_drew W)
    change wpAnyH _ _ _ _ _ _ _ _ (World.drew _)
    refine wpAnyH_take (i := 0) (oi := ⟨some 62, _, _, _, _, _⟩) (v := ?_) rfl (by kernel_rfl) (by kernel_rfl) (by kernel_rfl) (fun _ _ _ h => nomatch h.1) (Or.inl ⟨by rfl, ?_⟩) hS0 ?_
    rotate_left
    · (intro w' hSw; obtain ⟨_, kk, kn⟩ := hSw; go_simp; try (with_reducible rfl))
    simp only [Act.put, List.setIfInBounds_toArray, List.set_cons_zero, List.set_cons_succ]
    refine wpAnyH_take (i := 1) (oi := ⟨some 63, _, _, _, _, _⟩) (v := ?_) rfl (by kernel_rfl) (by kernel_rfl) (by kernel_rfl) (fun _ _ _ h => nomatch h.1) (Or.inl ⟨by rfl, ?_⟩) hS0 ?_
    rotate_left
    · (intro w' hSw; obtain ⟨_, kk, kn⟩ := hSw; go_simp; try (with_reducible rfl))
    simp only [Act.put, List.setIfInBounds_toArray, List.set_cons_zero, List.set_cons_succ]
    refine wpAnyH_take (i := 2) (oi := ⟨some 64, _, _, _, _, _⟩) (v := ?_) rfl (by kernel_rfl) (by kernel_rfl) (by kernel_rfl) (fun _ _ _ h => nomatch h.1) (Or.inl ⟨by rfl, ?_⟩) hS0 ?_
    rotate_left
    · (intro w' hSw; clear hSw; go_simp; try (with_reducible rfl))
    simp only [Act.put, List.setIfInBounds_toArray, List.set_cons_zero, List.set_cons_succ]
    refine wpAnyH_take (i := 3) (oi := ⟨some 65, _, _, _, _, _⟩) (v := ?_) rfl (by kernel_rfl) (by kernel_rfl) (by kernel_rfl) (fun _ _ _ h => nomatch h.1) (Or.inl ⟨by rfl, ?_⟩) hS0 ?_
    rotate_left
    · (intro w' hSw; clear hSw; go_simp; try (with_reducible rfl))
    simp only [Act.put, List.setIfInBounds_toArray, List.set_cons_zero, List.set_cons_succ]
    refine wpAnyH_take (i := 4) (oi := ⟨some 66, _, _, _, _, _⟩) (v := .agg jc) rfl (by kernel_rfl) (by kernel_rfl) (by kernel_rfl) (fun _ _ _ h => nomatch h.1) (yieldsIf_row22 rfl _ _ rfl w.heap.size rfl 29 jc (0, 0) _ (fun _ h => h.1) Tryz.underlying29 rfl HIj.out) hS0 ?_
    simp only [Act.put, List.setIfInBounds_toArray, List.set_cons_zero, List.set_cons_succ]
    refine wpAnyH_all (rs := [5]) (by kernel_rfl) (by simp) ?_
    intro i hi
    rw [List.mem_singleton] at hi
    subst hi
    refine wpOp_runW (o := ⟨some 67, _, _, _, _, _⟩) rfl rfl fun K' hK => ?_
    go_simp
    refine (HWk.out _ (BW.out.trans (E0.out.mono BW.out.size))).mono ?_
    rintro e w7 ⟨rfl, hB⟩
    have E7 := Lib.hid (E0.out.trans (hB.mono E0.out.size))
    have hS1 := hS0.ext hB
    clear hS0 hB
    have hS0 := hS1
    clear hS1
    refine hK _ _ ⟨hS0, ?_⟩
    clear hK K'
    try simp only [Act.put, List.setIfInBounds_toArray, List.set_cons_zero, List.set_cons_succ]
    refine wpAnyH_take (i := 6) (oi := ⟨some 68, _, _, _, _, _⟩) (v := ?_) rfl (by kernel_rfl) (by kernel_rfl) (by kernel_rfl) (fun _ _ _ h => nomatch h.1) (Or.inl ⟨by rfl, ?_⟩) hS0 ?_
    rotate_left
    · (intro w' hSw; clear hSw; go_simp; try (with_reducible rfl))
    simp only [Act.put, List.setIfInBounds_toArray, List.set_cons_zero, List.set_cons_succ]
    refine wpAnyH_take (i := 7) (oi := ⟨some 69, _, _, _, _, _⟩) (v := ?_) rfl (by kernel_rfl) (by kernel_rfl) (by kernel_rfl) (fun _ _ _ h => nomatch h.1) (Or.inl ⟨by rfl, ?_⟩) hS0 ?_
    rotate_left
    · (intro w' hSw; clear hSw; go_simp; try (with_reducible rfl))
    simp only [Act.put, List.setIfInBounds_toArray, List.set_cons_zero, List.set_cons_succ]
    refine wpAnyH_take (i := 8) (oi := ⟨some 70, _, _, _, _, _⟩) (v := ?_) rfl (by kernel_rfl) (by kernel_rfl) (by kernel_rfl) (fun _ _ _ h => nomatch h.1) (Or.inl ⟨by rfl, ?_⟩) hS0 ?_
    rotate_left
    · (intro w' hSw; clear hSw; go_simp; try (with_reducible rfl))
    simp only [Act.put, List.setIfInBounds_toArray, List.set_cons_zero, List.set_cons_succ]
    refine wpAnyH_all (rs := [9]) (by kernel_rfl) (by simp) ?_
    intro i hi
    rw [List.mem_singleton] at hi
    subst hi
    refine wpOp_runW (o := ⟨some 71, _, _, _, _, _⟩) rfl rfl fun K' hK => ?_
    go_simp
    refine (HA.out _).mono ?_
    rintro e w8 ⟨rfl, hB⟩
    have E8 := Lib.hid (E7.out.trans (hB.mono E7.out.size))
    have hS1 := hS0.ext hB
    clear hS0 hB
    have hS0 := hS1
    clear hS1
    have r8 := (A6.out.ext E8.out).r
    have r81 := r8.1
    have r82 := r8.2
    clear r8
    refine hK _ _ ⟨hS0, ?_⟩
    clear hK K'
    try simp only [Act.put, List.setIfInBounds_toArray, List.set_cons_zero, List.set_cons_succ]
    refine wpAnyH_take (i := 10) (oi := ⟨some 72, _, _, _, _, _⟩) (v := ?_) rfl (by kernel_rfl) (by kernel_rfl) (by kernel_rfl) (fun _ _ _ h => nomatch h.1) (Or.inl ⟨by rfl, ?_⟩) hS0 ?_
    rotate_left
    · (intro w' hSw; clear hSw; go_simp; try (with_reducible rfl))
    simp only [Act.put, List.setIfInBounds_toArray, List.set_cons_zero, List.set_cons_succ]
    refine wpAnyH_all (rs := [11]) (by kernel_rfl) (by simp) ?_
    intro i hi
    rw [List.mem_singleton] at hi
    subst hi
    refine wpOp_runW (o := ⟨none, _, _, _, _, _⟩) rfl rfl fun K' hK => ?_
    go_simp
    have hS1 := hS0.set (b := w.heap.size + 1 + 1) (v := .bool true) (by omega) (by omega) (by omega)
    clear hS0
    have hS0 := hS1
    clear hS1
    refine hK _ _ ⟨hS0, ?_⟩
    clear hK K'
    try simp only [Act.put, List.setIfInBounds_toArray, List.set_cons_zero, List.set_cons_succ]
    refine wpAnyH_done (by kernel_rfl) ⟨rfl, ?_⟩ _
    clear hS0
    gi_wp2_with fail
    have hn1 : D ≠ w.heap.size + 1 + 1 := by omega
    refine leaveM1 (v := .bool true) ?_ ?_ ⟨rfl, ?_⟩
    · rw [Below.heap_setCell _ _ _ _ (by simpa using hn1)]
      exact (E8.out.block D hDW).trans Hk.out
    · simp [results, Tryz.results9, go_sem, hn1.symm, cell_set_ite, r81]
    · exact ext_put ((BW.out.trans (E8.out.mono BW.out.size)).setCell (by simp; omega) _) (by omega)
  case stop =>
    rintro D c xs fq W hD hok ⟨rfl, h1, h3, h4⟩ honly hfo hlt hnD hk2
    have hxl : xs.length ≤ walkersJ j := by
      have := hok.length_le
      rw [List.length_map, allP_len] at this
      exact this
    rw [h4] at h1 hxl
    have hmn : min ((K : Int) + 1) (walkersJ j : Int) = ((K + 1 : Nat) : Int) := by rw [Int.min_eq_left (by omega)]; simp
    obtain ⟨wk, hwke⟩ : ∃ wk, walkersJ j = wk := ⟨_, rfl⟩
    rw [hwke] at hmn HWk hxl
    obtain ⟨nn, hnn⟩ : ∃ nn, K + 1 = nn := ⟨_, rfl⟩
    rw [hnn] at h1 hmn
    have A6 := Lib.hid (A5.out.only honly (by rintro (h | h) <;> omega) (by rintro (h | h) <;> omega) (by rintro (h | h) <;> omega))
    have BW := Lib.hid (B5.out.trans (honly.below B5.out.size (by rintro k hk (h | h) <;> omega)))
    have hsW := honly.size
    have hDW : D < W.heap.size := (Array.getElem?_eq_some_iff.1 hk2).1
    have hnW : w4.heap.size + 1 + 1 < W.heap.size := by omega
    have Hk := Lib.hid hk2
    have hWs := BW.out.size
    clear honly hfo hlt hnD hk2 HIt hnn hwk
    dsimp only
    have u1 : IntKind.u32.wrap (K : Int) = (K : Int) := IntWalk.u32_in _ (by omega)
    have u2 : IntKind.u32.wrap ((K : Int) + 1) = (K : Int) + 1 := IntWalk.u32_in _ (by omega)
    gi_wp2_with fail
    refine wpIn_wide.2 (wp_calm22 ?_)
    refine wp_region_held (S := ES w.heap.size (w4.heap.size + 1 + 1) K nn jc) (by kernel_rfl) ?_
    have hS0 : ES w.heap.size (w4.heap.size + 1 + 1) K nn jc W.drew := (show ES w.heap.size (w4.heap.size + 1 + 1) K nn jc W from ⟨A6.out.1, A6.out.k, h1⟩).ext (ext_drew W)
    have E0 := Lib.hid (ext_drew W)
    change wpAnyH _ _ _ _ _ _ _ _ (World.drew _)
    refine wpAnyH_take (i := 0) (oi := ⟨some 62, _, _, _, _, _⟩) (v := ?_) rfl (by kernel_rfl) (by kernel_rfl) (by kernel_rfl) (fun _ _ _ h => nomatch h.1) (Or.inl ⟨by rfl, ?_⟩) hS0 ?_
    rotate_left
    · (intro w' hSw; obtain ⟨_, kk, kn⟩ := hSw; go_simp; try (with_reducible rfl))
    simp only [Act.put, List.setIfInBounds_toArray, List.set_cons_zero, List.set_cons_succ]
    refine wpAnyH_take (i := 1) (oi := ⟨some 63, _, _, _, _, _⟩) (v := ?_) rfl (by kernel_rfl) (by kernel_rfl) (by kernel_rfl) (fun _ _ _ h => nomatch h.1) (Or.inl ⟨by rfl, ?_⟩) hS0 ?_
    rotate_left
    · (intro w' hSw; obtain ⟨_, kk, kn⟩ := hSw; go_simp; try (with_reducible rfl))
    simp only [Act.put, List.setIfInBounds_toArray, List.set_cons_zero, List.set_cons_succ]
    refine wpAnyH_take (i := 2) (oi := ⟨some 64, _, _, _, _, _⟩) (v := ?_) rfl (by kernel_rfl) (by kernel_rfl) (by kernel_rfl) (fun _ _ _ h => nomatch h.1) (Or.inl ⟨by rfl, ?_⟩) hS0 ?_
    rotate_left
    · (intro w' hSw; clear hSw; go_simp; try (with_reducible rfl))
    simp only [Act.put, List.setIfInBounds_toArray, List.set_cons_zero, List.set_cons_succ]
    refine wpAnyH_take (i := 3) (oi := ⟨some 65, _, _, _, _, _⟩) (v := ?_) rfl (by kernel_rfl) (by kernel_rfl) (by kernel_rfl) (fun _ _ _ h => nomatch h.1) (Or.inl ⟨by rfl, ?_⟩) hS0 ?_
    rotate_left
    · (intro w' hSw; clear hSw; go_simp; try (with_reducible rfl))
    simp only [Act.put, List.setIfInBounds_toArray, List.set_cons_zero, List.set_cons_succ]
    refine wpAnyH_take (i := 4) (oi := ⟨some 66, _, _, _, _, _⟩) (v := .agg jc) rfl (by kernel_rfl) (by kernel_rfl) (by kernel_rfl) (fun _ _ _ h => nomatch h.1) (yieldsIf_row22 rfl _ _ rfl w.heap.size rfl 29 jc (0, 0) _ (fun _ h => h.1) Tryz.underlying29 rfl HIj.out) hS0 ?_
    simp only [Act.put, List.setIfInBounds_toArray, List.set_cons_zero, List.set_cons_succ]
    refine wpAnyH_all (rs := [5]) (by kernel_rfl) (by simp) ?_
    intro i hi
    rw [List.mem_singleton] at hi
    subst hi
    refine wpOp_runW (o := ⟨some 67, _, _, _, _, _⟩) rfl rfl fun K' hK => ?_
    go_simp
    refine (HWk.out _ (BW.out.trans (E0.out.mono BW.out.size))).mono ?_
    rintro e w7 ⟨rfl, hB⟩
    have E7 := Lib.hid (E0.out.trans (hB.mono E0.out.size))
    have hS1 := hS0.ext hB
    clear hS0 hB
    have hS0 := hS1
    clear hS1
    refine hK _ _ ⟨hS0, ?_⟩
    clear hK K'
    try simp only [Act.put, List.setIfInBounds_toArray, List.set_cons_zero, List.set_cons_succ]
    refine wpAnyH_take (i := 6) (oi := ⟨some 68, _, _, _, _, _⟩) (v := ?_) rfl (by kernel_rfl) (by kernel_rfl) (by kernel_rfl) (fun _ _ _ h => nomatch h.1) (Or.inl ⟨by rfl, ?_⟩) hS0 ?_
    rotate_left
    · (intro w' hSw; clear hSw; go_simp; try (with_reducible rfl))
    simp only [Act.put, List.setIfInBounds_toArray, List.set_cons_zero, List.set_cons_succ]
    refine wpAnyH_take (i := 7) (oi := ⟨some 69, _, _, _, _, _⟩) (v := ?_) rfl (by kernel_rfl) (by kernel_rfl) (by kernel_rfl) (fun _ _ _ h => nomatch h.1) (Or.inl ⟨by rfl, ?_⟩) hS0 ?_
    rotate_left
    · (intro w' hSw; clear hSw; go_simp; try (with_reducible rfl))
    simp only [Act.put, List.setIfInBounds_toArray, List.set_cons_zero, List.set_cons_succ]
    refine wpAnyH_take (i := 8) (oi := ⟨some 70, _, _, _, _, _⟩) (v := ?_) rfl (by kernel_rfl) (by kernel_rfl) (by kernel_rfl) (fun _ _ _ h => nomatch h.1) (Or.inl ⟨by rfl, ?_⟩) hS0 ?_
    rotate_left
    · (intro w' hSw; clear hSw; go_simp; try (with_reducible rfl))
    simp only [Act.put, List.setIfInBounds_toArray, List.set_cons_zero, List.set_cons_succ]
    refine wpAnyH_all (rs := [9]) (by kernel_rfl) (by simp) ?_
    intro i hi
    rw [List.mem_singleton] at hi
    subst hi
    refine wpOp_runW (o := ⟨some 71, _, _, _, _, _⟩) rfl rfl fun K' hK => ?_
    go_simp
    refine (HA.out _).mono ?_
    rintro e w8 ⟨rfl, hB⟩
    have E8 := Lib.hid (E7.out.trans (hB.mono E7.out.size))
    have hS1 := hS0.ext hB
    clear hS0 hB
    have hS0 := hS1
    clear hS1
    have r8 := (A6.out.ext E8.out).r
    have r81 := r8.1
    have r82 := r8.2
    clear r8
    refine hK _ _ ⟨hS0, ?_⟩
    clear hK K'
    try simp only [Act.put, List.setIfInBounds_toArray, List.set_cons_zero, List.set_cons_succ]
    refine wpAnyH_take (i := 10) (oi := ⟨some 72, _, _, _, _, _⟩) (v := ?_) rfl (by kernel_rfl) (by kernel_rfl) (by kernel_rfl) (fun _ _ _ h => nomatch h.1) (Or.inl ⟨by rfl, ?_⟩) hS0 ?_
    rotate_left
    · (intro w' hSw; clear hSw; go_simp; try (with_reducible rfl))
    simp only [Act.put, List.setIfInBounds_toArray, List.set_cons_zero, List.set_cons_succ]
    refine wpAnyH_all (rs := [11]) (by kernel_rfl) (by simp) ?_
    intro i hi
    rw [List.mem_singleton] at hi
    subst hi
    refine wpOp_runW (o := ⟨none, _, _, _, _, _⟩) rfl rfl fun K' hK => ?_
    go_simp
    have hS1 := hS0.set (b := w.heap.size + 1 + 1) (v := .bool true) (by omega) (by omega) (by omega)
    clear hS0
    have hS0 := hS1
    clear hS1
    refine hK _ _ ⟨hS0, ?_⟩
    clear hK K'
    try simp only [Act.put, List.setIfInBounds_toArray, List.set_cons_zero, List.set_cons_succ]
    refine wpAnyH_done (by kernel_rfl) ⟨rfl, ?_⟩ _
    clear hS0
    gi_wp2_with fail
    have hn1 : D ≠ w.heap.size + 1 + 1 := by omega
    refine leaveM1 (v := .bool true) ?_ ?_ ⟨rfl, ?_⟩
    · rw [Below.heap_setCell _ _ _ _ (by simpa using hn1)]
      exact (E8.out.block D hDW).trans Hk.out
    · simp [results, Tryz.results9, go_sem, hn1.symm, cell_set_ite, r81]
    · exact ext_put ((BW.out.trans (E8.out.mono BW.out.size)).setCell (by simp; omega) _) (by omega)
end Go.Proofs.YtcklfffeimnfeaaGreat
