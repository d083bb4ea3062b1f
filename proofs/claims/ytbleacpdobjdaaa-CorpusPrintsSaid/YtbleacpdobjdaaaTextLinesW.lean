/- TextLines: the walk. -/
import Derived.Test.YtbleacpdobjdaaaTextLines
namespace Go.Proofs.Ytbleacpdobjdaaa
set_option linter.unusedSimpArgs false
set_option linter.unusedVariables false
open Go.RowKit
attribute [local go_sem] Oper.semAt_some

theorem pre_next {ls : List (List UInt8)} {pre : List (Nat × List UInt8)} {x : Nat × List UInt8} (h : pre ++ [x] <+: numFrom 1 ls) : ∃ y, x = (pre.length + 1, y) ∧ ls[pre.length]? = some y ∧ pre.length < ls.length := by
  obtain ⟨r, hr⟩ := h
  have h1 : (numFrom 1 ls)[pre.length]? = some x := by rw [← hr]; simp
  rw [numFrom_get] at h1
  cases h2 : ls[pre.length]? with
  | none => rw [h2] at h1; cases h1
  | some y =>
    rw [h2] at h1
    simp only [Option.map_some, Option.some.injEq] at h1
    exact ⟨y, by rw [← h1, Nat.add_comm], rfl, (List.getElem?_eq_some_iff.1 h2).1⟩

theorem leaveM0 {P : Program} {fn : Func} {tmps : Array Value} {R : Ending → World → Prop} {W : World} {v : Value} (hr : (results fn tmps).run P W = .ok v W) (hR : R (.returned v) W) :
    bodyPostM Fence.wide 0 P fn R .ret { tmps := tmps, defers := [] } W := ⟨v, hr, hR⟩

set_option maxRecDepth 100000 in
set_option maxHeartbeats 1600000 in
theorem textLines_walk (l : List UInt8) (ao : Option Addr) (cap : Nat) (w : World) (hrd : Rd w ao l.length (byteVals l)) (hcap : l.length ≤ cap) (hcm : cap ≤ maxLen) :
    Calls Try.prog 6 #[.slice ao l.length cap] w fun e w' => e = .returned (.bool true) ∧ Below w.heap.size w w' := by
  have hq : ∀ (fn : Fn) (a b : Array Value) (w : World), (binOp .eql 40 (.func fn a b) .nilFunc).run Try.prog w = .ok (.bool false) w := fun _ _ _ _ => by kernel_rfl
  by_cases hl : 3000 < l.length
  · have hd : decide ((3000 : Int) < l.length) = true := by simp; omega
    refine (callsIn_wide (n := 0)).1 (callsIn_of_wp_marks Try.func6 rfl trivial ?_)
    simp only [Try.ntmps6, List.size_toArray, List.length_cons, List.length_nil, Nat.reduceAdd, Nat.reduceSub, Array.replicate_succ, Array.replicate_zero, List.push_toArray, List.append_toArray, List.nil_append, List.cons_append]
    gi_wp2_with (gi_at_call 15; refine (callsIn_wide.2 (awake11_any _)).mono ?_; rintro e w1 ⟨rfl, hB1⟩; obtain ⟨hc1, hf1⟩ := bext hB1)
    refine leaveM0 (v := .bool true) ?_ ⟨rfl, ((ext_alloc w _).trans (hB1.mono (by simp))).setCell (by simp) _⟩
    simp [results, Try.results6, go_sem, hc1, ↓IntWalk.iteOmega]
  · have hd : decide ((3000 : Int) < l.length) = false := by simp; omega
    have hll := lines_len l
    have hR := rlines_any l (by omega) ao cap
    have hit := fun b => lines_iter b l ao cap (by omega) hcap hcm
    generalize hls : lines l = ls at *
    clear hls
    refine (callsIn_wide (n := 0)).1 (callsIn_of_wp_marks Try.func6 rfl trivial ?_)
    simp only [Try.ntmps6, List.size_toArray, List.length_cons, List.length_nil, Nat.reduceAdd, Nat.reduceSub, Array.replicate_succ, Array.replicate_zero, List.push_toArray, List.append_toArray, List.nil_append, List.cons_append]
    gi_wp2_with (first
      | (gi_at_call 23; refine (callsIn_wide.2 (hR _ (hrd.ext (ext_alloc _ _)))).mono ?_; rintro e w1 ⟨aw, capw, gw, rfl, how, hgw, hB1⟩; obtain ⟨hc1, hf1⟩ := bext hB1; have hz1 := hB1.size; simp at hz1)
      | (gi_at_call 24; refine (callsIn_wide.2 (lines_any _ _ _ _)).mono ?_; rintro e w2 ⟨rfl, rfl⟩))
    obtain ⟨w2, hw2⟩ : ∃ w2, ((w1.alloc (Obj.cells #[Value.slice aw ls.length capw] 24)).alloc (Obj.cells #[Value.slice ao l.length cap] 34)).alloc (Obj.cells #[Value.int IntKind.i64 0] 3) = w2 := ⟨_, rfl⟩
    have c0 : w2.cell? ⟨w.heap.size, 0, none⟩ = some (.bool false) := by rw [← hw2]; simp [go_sem, hc1, ↓IntWalk.iteOmega]
    have f0 : w2.frozen? ⟨w.heap.size, 0, none⟩ = false := by rw [← hw2]; simp [go_sem, hf1, ↓IntWalk.iteOmega]
    have c1 : w2.cell? ⟨w1.heap.size, 0, none⟩ = some (.slice aw ls.length capw) := by rw [← hw2]; simp [go_sem, ↓IntWalk.iteOmega]
    have c2 : w2.cell? ⟨w1.heap.size + 1, 0, none⟩ = some (.slice ao l.length cap) := by rw [← hw2]; simp [go_sem, ↓IntWalk.iteOmega]
    have c3 : w2.cell? ⟨w1.heap.size + 1 + 1, 0, none⟩ = some (.int .i64 0) := by rw [← hw2]; simp [go_sem, ↓IntWalk.iteOmega]
    have f3 : w2.frozen? ⟨w1.heap.size + 1 + 1, 0, none⟩ = false := by rw [← hw2]; simp [go_sem, ↓IntWalk.iteOmega]
    have hs2 : w2.heap.size = w1.heap.size + 3 := by rw [← hw2]; simp
    have hB12 : Below w1.heap.size w1 w2 := by rw [← hw2]; exact ((ext_alloc w1 _).alloc (by simp) _).alloc (by simp; omega) _
    have hBw1 : Below w.heap.size w w1 := (ext_alloc w _).trans (hB1.mono (by simp))
    have hB2 : Below w.heap.size w w2 := hBw1.trans (hB12.mono hBw1.size)
    have how2 := how.ext hB12
    have hgl := how.lt
    rw [hw2]
    clear hw2 hc1 hf1 hB1
    have C0 := Lib.hid c0
    have F0 := Lib.hid f0
    have C1 := Lib.hid c1
    have How := Lib.hid how2
    clear c0 f0 c1 how2
    have hao : ∀ k off, 0 < l.length → ao = some ⟨k, off, none⟩ → k < w.heap.size := fun k off h0 e => by
      obtain ⟨b, o, h1, h2, _⟩ := hrd.pos h0
      rw [h1] at e
      cases e
      exact h2
    refine wpIn_range1 (gf := 44) (lb := #[.pointer (some ⟨w1.heap.size + 1, 0, none⟩)]) rfl (enters_of Try.func44 (by kernel_rfl) rfl) (hit (w1.heap.size + 1)) (fun _ => rfl)
      (fun b => b = w1.heap.size + 1 + 1) (fun b hb => ⟨by omega, fun h => h.elim (fun h => by omega) (fun ⟨h0, off, e⟩ => by have := hao _ _ h0 e; omega)⟩)
      (fun b h => h.elim (fun h => by omega) (fun ⟨h0, off, e⟩ => by have := hao _ _ h0 e; omega))
      (fun pre W => W.cell? ⟨w1.heap.size + 1 + 1, 0, none⟩ = some (.int .i64 pre.length) ∧ W.frozen? ⟨w1.heap.size + 1 + 1, 0, none⟩ = false)
      (fun _ _ _ => False)
      (fun pre A B h hs => ⟨(hs.cell rfl 0).trans h.1, (hs.frozen rfl 0).trans h.2⟩)
      (fun c pre A B h hs => h)
      (fun pre A h => trivial)
      (fun W hb => ⟨(hb.cell (p := ⟨_, 0, none⟩) (by simp; omega)).trans c2, (hrd.ext hB2).ext hb⟩)
      ⟨c3, f3⟩
      [(19, fun x => .int .i64 x.1), (20, fun x => .string (bs x.2)), (6, fun x => .int .i64 x.1), (7, fun x => .string (bs x.2))] ?assign ?body ?done (fun _ _ _ _ _ _ h => h.elim)
    case assign =>
      intro l x W K hK
      rw [show lineEnc x = #[.int .i64 x.1, .string (bs x.2)] from rfl]
      gi_wp2
      exact hK
    case body =>
      rintro l0 pre x W W0 _ _ honly hok _ _ ⟨hc3, hf3⟩ _
      simp only [List.foldl_cons, List.foldl_nil, List.setIfInBounds_toArray, List.set_cons_zero, List.set_cons_succ]
      obtain ⟨y, rfl, hy, hlt⟩ := pre_next hok
      have hc1 : W.cell? ⟨w1.heap.size, 0, none⟩ = some (.slice aw ls.length capw) := (honly.cell (by omega) (by rintro (h | h) <;> first | omega | exact h) 0).trans C1.out
      obtain ⟨bw, rfl, rfl, hbw⟩ := how.pos (by omega)
      have hce : W.cell? ⟨bw, pre.length, none⟩ = some (.string (bs y)) := by
        rw [honly.cell (by omega) (by rintro (h | h) <;> first | omega | exact h) pre.length, How.out.cell pre.length (by omega)]
        simp [strCells, hy]
      have hge : decide ((ls.length : Int) ≤ (pre.length : Int)) = false := by simp; omega
      have hne : (((pre.length + 1 : Nat) : Int) != (pre.length : Int) + 1) = false := by simp
      have hir : (pre.length : Int) < (ls.length : Int) := by omega
      have hpl : (pre.length : Int) ≤ 3000 := by omega
      clear hok honly
      gi_wp2_with fail
      exact ⟨(Only.refl (fun b => b = w1.heap.size + 1 + 1) W).setCell (fun _ => rfl) _, by simp [cell_set_ite, hc3], by simp [hf3]⟩
    case done =>
      rintro D xs W hD rfl ⟨hc3, hf3⟩ honly hk
      rw [numFrom_length] at hc3
      have hc0 : W.cell? ⟨w.heap.size, 0, none⟩ = some (.bool false) := (honly.cell (by omega) (by rintro (h | h) <;> first | omega | exact h) 0).trans C0.out
      have hf0 : W.frozen? ⟨w.heap.size, 0, none⟩ = false := (honly.frozen (by omega) (by rintro (h | h) <;> first | omega | exact h) 0).trans F0.out
      have hc1 : W.cell? ⟨w1.heap.size, 0, none⟩ = some (.slice aw ls.length capw) := (honly.cell (by omega) (by rintro (h | h) <;> first | omega | exact h) 0).trans C1.out
      have hbW : Below w.heap.size w W := hB2.trans (honly.below (by omega) (by rintro k hk (h | h) <;> first | omega | exact h))
      have hxx : ((ls.length : Int) == ls.length) = true := by simp
      have hDW : D < W.heap.size := (Array.getElem?_eq_some_iff.1 hk).1
      clear honly
      dsimp only
      gi_wp2_with (gi_at_call 15; refine (callsIn_wide.2 (awake11_any _)).mono ?_; rintro e w3 ⟨rfl, hB3⟩; have hd0 := (hB3.cell (p := ⟨w.heap.size, 0, none⟩) (by show w.heap.size < W.heap.size; have := hbW.size; omega)).trans hc0; have hg0 := (hB3.frozen (p := ⟨w.heap.size, 0, none⟩) (by show w.heap.size < W.heap.size; have := hbW.size; omega)).trans hf0)
      refine leaveM1 (v := .bool true) ((Below.heap_setCell _ _ _ _ (by simp; omega)).trans ((hB3.block D hDW).trans hk)) ?_ ⟨rfl, ?_⟩
      · have hD4 : w.heap.size ≠ D := by omega
        simp [results, Try.results6, go_sem, hD4, hd0]
      · exact ext_put ((hbW.trans (hB3.mono hbW.size)).setCell (by simp) _) (by omega)
end Go.Proofs.Ytbleacpdobjdaaa
