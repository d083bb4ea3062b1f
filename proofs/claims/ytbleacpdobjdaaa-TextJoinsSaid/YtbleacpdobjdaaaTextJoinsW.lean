/- TextJoins: the walk. -/
import Derived.Test.YtbleacpdobjdaaaTextStopsW
namespace Go.Proofs.Ytbleacpdobjdaaa
set_option linter.unusedSimpArgs false
set_option linter.unusedVariables false
open Go.RowKit
attribute [local go_sem] Oper.semAt_some

def joined : List (List UInt8) → List UInt8
  | [] => []
  | x :: r => x ++ 10 :: joined r
theorem joined_snoc : ∀ (a : List (List UInt8)) (x : List UInt8), joined (a ++ [x]) = joined a ++ x ++ [10]
  | [], x => by simp [joined]
  | y :: a, x => by simp [joined, joined_snoc a x]
theorem lines_joined : ∀ (l : List (List UInt8)), (∀ x ∈ l, ∀ d ∈ x, (d == 10) = false) → lines (joined l) = l
  | [], _ => by simp [joined, lines, linesGo]
  | x :: r, h => by
    rw [joined, lines_cut x _ (h x (by simp)), lines_joined r (fun y hy => h y (by simp [hy]))]
theorem joined_len : ∀ (l : List (List UInt8)), (∀ x ∈ l, x.length ≤ 100) → (joined l).length ≤ 101 * l.length
  | [], _ => by simp [joined]
  | x :: r, h => by
    have h1 := h x (by simp)
    have h2 := joined_len r (fun y hy => h y (by simp [hy]))
    simp [joined]; omega

def joinRel (l : List (List UInt8)) (w : World) (b i : Value) (wr : World) : Prop :=
  ∃ (k : Nat) (ao : Option Addr) (cap : Nat) (g : Option Nat), k ≤ l.length ∧ i = .int .i64 k ∧ b = .slice ao (joined (l.take k)).length cap ∧
    (∀ x ∈ l.take k, x.length ≤ 100) ∧ (∀ x ∈ l.take k, ∀ d ∈ x, (d == 10) = false) ∧ Own wr ao cap g 5 1 (joined (l.take k)).length (byteVals (joined (l.take k))) ∧ (∀ b, g = some b → w.heap.size ≤ b) ∧ Below w.heap.size w wr
def joinIn (s : List UInt8) (w : World) (i : Value) (wr : World) : Prop :=
  ∃ j : Nat, j ≤ s.length ∧ i = .int .i64 j ∧ (∀ d ∈ s.take j, (d == 10) = false) ∧ wr = w

set_option maxRecDepth 100000 in
set_option maxHeartbeats 1600000 in
theorem textJoins_walk (l : List (List UInt8)) (ao : Option Addr) (cap : Nat) (w : World) (hrd : Rd w ao l.length (strCells l)) (hcap : l.length ≤ cap) (hcm : cap ≤ maxLen) :
    Calls Try.prog 8 #[.slice ao l.length cap] w fun e w' => e = .returned (.bool true) ∧ Below w.heap.size w w' := by
  have hq : ∀ (fn : Fn) (a b : Array Value) (w : World), (binOp .eql 40 (.func fn a b) .nilFunc).run Try.prog w = .ok (.bool false) w := fun _ _ _ _ => by kernel_rfl
  have hE := bytesElem
  by_cases hl : 100 < l.length
  · have hd : decide ((100 : Int) < l.length) = true := by simp; omega
    refine (callsIn_wide (n := 0)).1 (callsIn_of_wp_marks Try.func8 rfl trivial ?_)
    simp only [Try.ntmps8, List.size_toArray, List.length_cons, List.length_nil, Nat.reduceAdd, Nat.reduceSub, Array.replicate_succ, Array.replicate_zero, List.push_toArray, List.append_toArray, List.nil_append, List.cons_append]
    gi_wp2_with (gi_at_call 15; refine (callsIn_wide.2 (awake11_any _)).mono ?_; rintro e w1 ⟨rfl, hB1⟩; obtain ⟨hc1, hf1⟩ := bext hB1)
    refine leaveM0 (v := .bool true) ?_ ⟨rfl, (((ext_alloc w _).alloc (by simp) _).trans (hB1.mono (by simp; omega))).setCell (by simp) _⟩
    simp [results, Try.results8, go_sem, hc1, ↓IntWalk.iteOmega]
  · have hd : decide ((100 : Int) < l.length) = false := by simp; omega
    refine (callsIn_wide (n := 0)).1 (callsIn_of_wp_marks Try.func8 rfl trivial ?_)
    simp only [Try.ntmps8, List.size_toArray, List.length_cons, List.length_nil, Nat.reduceAdd, Nat.reduceSub, Array.replicate_succ, Array.replicate_zero, List.push_toArray, List.append_toArray, List.nil_append, List.cons_append]
    gi_wp2_with fail
    obtain ⟨w0, hw0⟩ : ∃ w0, (w.alloc (Obj.cells #[Value.slice ao l.length cap] 24)).alloc (Obj.cells #[Value.bool false] 4) = w0 := ⟨_, rfl⟩
    have c0 : w0.cell? ⟨w.heap.size + 1, 0, none⟩ = some (.bool false) := by rw [← hw0]; simp [go_sem, ↓IntWalk.iteOmega]
    have f0 : w0.frozen? ⟨w.heap.size + 1, 0, none⟩ = false := by rw [← hw0]; simp [go_sem, ↓IntWalk.iteOmega]
    have cb : w0.cell? ⟨w.heap.size, 0, none⟩ = some (.slice ao l.length cap) := by rw [← hw0]; simp [go_sem, ↓IntWalk.iteOmega]
    have hs0 : w0.heap.size = w.heap.size + 2 := by rw [← hw0]; simp
    have hB0 : Below w.heap.size w w0 := by rw [← hw0]; exact (ext_alloc w _).alloc (by simp) _
    have hrd0 := hrd.ext hB0
    rw [hw0, show w.heap.size + 1 + 1 = w0.heap.size from by omega]
    have hs0' : w.heap.size + 2 ≤ w0.heap.size := by omega
    clear hw0 hs0
    have C0 := Lib.hid c0
    have F0 := Lib.hid f0
    have CB := Lib.hid cb
    have Hrd := Lib.hid hrd0
    clear c0 f0 cb hrd0
    gi_loopw [3, 4, 5] (fun b i _ wr => joinRel l w0 b i wr) (fun _ i _ _ => l.length - (intOf i).toNat)
    case atStart => exact ⟨0, _, _, some w0.heap.size, by omega, rfl, rfl, by simp, by simp, Own.empty _ _ _, fun b h => by cases h; omega, ext_alloc _ _⟩
    case round =>
      obtain ⟨k, bo, bcap, g, hk, rfl, rfl, h100, hno, ho, hg, hB⟩ := hrel
      have hcb : wr.cell? ⟨w.heap.size, 0, none⟩ = some (.slice ao l.length cap) := (hB.cell (p := ⟨w.heap.size, 0, none⟩) (by show w.heap.size < w0.heap.size; omega)).trans CB.out
      have hc0 : wr.cell? ⟨w.heap.size + 1, 0, none⟩ = some (.bool false) := (hB.cell (p := ⟨w.heap.size + 1, 0, none⟩) (by show w.heap.size + 1 < w0.heap.size; omega)).trans C0.out
      have hf0 : wr.frozen? ⟨w.heap.size + 1, 0, none⟩ = false := (hB.frozen (p := ⟨w.heap.size + 1, 0, none⟩) (by show w.heap.size + 1 < w0.heap.size; omega)).trans F0.out
      have hbw : Below w.heap.size w wr := hB0.trans (hB.mono (by omega))
      have H100 := Lib.hid h100
      have Hno := Lib.hid hno
      have Hg := Lib.hid hg
      have HB := Lib.hid hB
      have hjl := joined_len (l.take k) h100
      rw [List.length_take, Nat.min_eq_left hk] at hjl
      clear h100 hno hg hB
      by_cases hlt : k < l.length
      · obtain ⟨ba, oa, rfl, hba, hca⟩ := (Hrd.out.ext HB.out).pos (by omega)
        have hce := hca k hlt
        simp only [strCells, List.getElem?_map, List.getElem?_eq_getElem hlt, Option.map_some] at hce
        have htk := take_next l k hlt
        have hir : (k : Int) < (l.length : Int) := by omega
        generalize l[k] = s at hce htk
        have hszs := bs_size s
        have Htk := Lib.hid htk
        clear hca htk
        have fin : ∀ (w3 : World), Below wr.heap.size wr w3 → (results Try.f8 #[]).run Try.prog w3 = (results Try.f8 #[]).run Try.prog w3 := fun _ _ => rfl
        clear fin
        by_cases hbig : 100 < s.length
        · have hd2 : decide ((100 : Int) < s.length) = true := by simp; omega
          gi_wp2_with (gi_at_call 15; refine (callsIn_wide.2 (awake11_any _)).mono ?_; rintro e w1 ⟨rfl, hB1⟩; obtain ⟨hc1, hf1⟩ := bext hB1; have hr0 := (hB1.cell (p := ⟨w.heap.size + 1, 0, none⟩) (by show w.heap.size + 1 < wr.heap.size; have := HB.out.size; omega)).trans hc0; have hr1 := (hB1.frozen (p := ⟨w.heap.size + 1, 0, none⟩) (by show w.heap.size + 1 < wr.heap.size; have := HB.out.size; omega)).trans hf0; clear hc1 hf1)
          refine leaveM0 (v := .bool true) ?_ ⟨rfl, (hbw.trans (hB1.mono hbw.size)).setCell (by simp) _⟩
          simp [results, Try.results8, go_sem, hr0]
        · have hd2 : decide ((100 : Int) < s.length) = false := by simp; omega
          gi_wp2_with fail
          gi_loopw [5] (fun i wr' => joinIn s wr i wr') (fun i _ => s.length - (intOf i).toNat)
          case atStart => exact ⟨0, by omega, rfl, by simp, rfl⟩
          case round =>
            obtain ⟨j, hj, rfl, hnj, rfl⟩ := hrel
            by_cases hjl2 : j < s.length
            · have hget := bs_get s j (by rw [bs_size]; exact hjl2)
              have htj := take_next s j hjl2
              have hir2 : (j : Int) < (s.length : Int) := by omega
              have n10 := eqB s[j] 10 10 rfl
              cases hc : s[j] == 10 with
              | false =>
                rw [hc] at n10
                generalize s[j] = c at *
                have Hnj := Lib.hid hnj
                have Htj := Lib.hid htj
                have Hc := Lib.hid hc
                clear hnj htj hc
                gi_wp2_with fail
                go_roundw
                case rel =>
                  refine ⟨j + 1, by omega, by go_num, fun d hd => ?_, rfl⟩
                  rw [Htj.out, List.mem_append] at hd
                  rcases hd with hd | hd
                  · exact Hnj.out d hd
                  · rw [List.mem_singleton.1 hd]; exact Hc.out
                case measure => simp [intOf]; omega
              | true =>
                rw [hc] at n10
                generalize s[j] = c at *
                clear hnj htj hc
                gi_wp2_with (gi_at_call 15; refine (callsIn_wide.2 (awake11_any _)).mono ?_; rintro e w1 ⟨rfl, hB1⟩; have hr0 := (hB1.cell (p := ⟨w.heap.size + 1, 0, none⟩) (by show w.heap.size + 1 < wr.heap.size; have := HB.out.size; omega)).trans hc0; have hr1 := (hB1.frozen (p := ⟨w.heap.size + 1, 0, none⟩) (by show w.heap.size + 1 < wr.heap.size; have := HB.out.size; omega)).trans hf0)
                refine leaveM0 (v := .bool true) ?_ ⟨rfl, (hbw.trans (hB1.mono hbw.size)).setCell (by simp) _⟩
                simp [results, Try.results8, go_sem, hr0]
            · obtain rfl : j = s.length := by omega
              rw [List.take_length] at hnj
              have Hnj := Lib.hid hnj
              clear hnj
              obtain ⟨capc, wc, hcv, hBc, hwc, hcellc⟩ := conv_bytes s wr
              have hsrc : Src Try.prog 1 34 (.slice (some ⟨wr.heap.size, 0, none⟩) s.length capc) s.length (byteVals s) wc :=
                Src.ofSlice wc Try.underlying34 ⟨wr.heap.size, 0, none⟩ s.length capc (byteVals s) (by simp [byteVals])
                  (fun j u hu => by rw [Addr.add_lit, Nat.zero_add, hcellc j (by have := (List.getElem?_eq_some_iff.1 hu).1; simpa [byteVals] using this), hu]) (byteVals_one s)
              obtain ⟨P, hP⟩ : ∃ P, joined (l.take k) = P := ⟨_, rfl⟩
              rw [hP] at ho hjl ⊢
              have HP := Lib.hid hP
              clear hcellc hP
              gi_wp2_with (first
                | (gi_at_builtin; refine wpListIn_app rfl (.tmp 45) (.tmp 50) 34 34 rfl hE (ho.ext hBc) rfl rfl hsrc (by simp [maxLen]; omega) (by omega) ?_; intro ao1 cap1 g1 w3 ho1 hg1 hon1)
                | (gi_at_builtin; refine wpListIn_app rfl (.tmp 52) (.tmp 53) 34 34 rfl hE (ho1.alloc _) rfl rfl (srcOne Try.underlying34 _ _ _ _ rfl) (by simp [maxLen]; omega) (by omega) ?_; intro ao2 cap2 g2 w4 ho2 hg2 hon2))
              go_roundw
              case rel =>
                have hj1 : joined (l.take (k + 1)) = P ++ s ++ [10] := by rw [Htk.out, joined_snoc, HP.out]
                have hj2 : (joined (l.take (k + 1))).length = P.length + s.length + 1 := by rw [hj1]; simp; omega
                have hs1 : w0.heap.size ≤ wr.heap.size := HB.out.size
                have hs2 : wr.heap.size ≤ wc.heap.size := hBc.size
                have hs3 : wc.heap.size ≤ w3.heap.size := hon1.size
                have hg1' : ∀ b, g1 = some b → w0.heap.size ≤ b := fun b h => by
                  rcases hg1 with rfl | rfl
                  · exact Hg.out b h
                  · cases h; omega
                refine ⟨k + 1, ao2, cap2, g2, by omega, by go_num, by rw [hj2], ?_, ?_, ?_, ?_, ?_⟩
                · rw [Htk.out]
                  intro x hx
                  rcases List.mem_append.1 hx with h | h
                  · exact H100.out x h
                  · rw [List.mem_singleton.1 h]; omega
                · rw [Htk.out]
                  intro x hx
                  rcases List.mem_append.1 hx with h | h
                  · exact Hno.out x h
                  · rw [List.mem_singleton.1 h]; exact Hnj.out
                · rw [hj2, hj1]
                  simpa [byteVals] using ho2
                · intro b h
                  rcases hg2 with rfl | rfl
                  · exact hg1' b h
                  · cases h; simp; omega
                · refine (((HB.out.trans (hBc.mono hs1)).trans (hon1.below (by omega) (fun k hk e => by have := Hg.out k e; omega))).alloc (by omega) _).trans (hon2.below (by simp; omega) (fun k hk e => by have := hg1' k e; omega))
              case measure => simp [intOf]; omega
      · obtain rfl : k = l.length := by omega
        rw [List.take_length] at ho hjl ⊢
        have hlj : lines (joined l) = l := lines_joined l (by have := Hno.out; rwa [List.take_length] at this)
        obtain ⟨P, hP⟩ : ∃ P, joined l = P := ⟨_, rfl⟩
        rw [hP] at ho hjl hlj ⊢
        clear hP
        have hoc := ho.capLe
        have hor := ho.rd
        have hol := ho.lt
        have hoa := ho.addr
        have hit := fun b => lines_iter b P bo bcap (by omega) hoc.1 hoc.2
        have Hlj := Lib.hid hlj
        have Hoa := Lib.hid hoa
        have Hor := Lib.hid hor
        have HBw := Lib.hid hbw
        have Hdl := Lib.hid hd
        clear hoc hlj hoa hor ho hbw
        gi_wp2_with (gi_at_call 24; refine (callsIn_wide.2 (lines_any _ _ _ _)).mono ?_; rintro e w2 ⟨rfl, rfl⟩)
        obtain ⟨w2, hw2⟩ : ∃ w2, (wr.alloc (Obj.cells #[Value.slice bo P.length bcap] 34)).alloc (Obj.cells #[Value.int IntKind.i64 0] 3) = w2 := ⟨_, rfl⟩
        have hsr : w0.heap.size ≤ wr.heap.size := HB.out.size
        have hB2 : Below wr.heap.size wr w2 := by rw [← hw2]; exact (ext_alloc wr _).alloc (by simp) _
        have d0 : w2.cell? ⟨w.heap.size + 1, 0, none⟩ = some (.bool false) := (hB2.cell (p := ⟨w.heap.size + 1, 0, none⟩) (by show w.heap.size + 1 < wr.heap.size; omega)).trans hc0
        have e0 : w2.frozen? ⟨w.heap.size + 1, 0, none⟩ = false := (hB2.frozen (p := ⟨w.heap.size + 1, 0, none⟩) (by show w.heap.size + 1 < wr.heap.size; omega)).trans hf0
        have d1 : w2.cell? ⟨w.heap.size, 0, none⟩ = some (.slice ao l.length cap) := (hB2.cell (p := ⟨w.heap.size, 0, none⟩) (by show w.heap.size < wr.heap.size; omega)).trans hcb
        have d2 : w2.cell? ⟨wr.heap.size, 0, none⟩ = some (.slice bo P.length bcap) := by rw [← hw2]; simp [go_sem, ↓IntWalk.iteOmega]
        have d3 : w2.cell? ⟨wr.heap.size + 1, 0, none⟩ = some (.int .i64 0) := by rw [← hw2]; simp [go_sem, ↓IntWalk.iteOmega]
        have e3 : w2.frozen? ⟨wr.heap.size + 1, 0, none⟩ = false := by rw [← hw2]; simp [go_sem, ↓IntWalk.iteOmega]
        have hs2 : w2.heap.size = wr.heap.size + 2 := by rw [← hw2]; simp
        have hrd2 := Hrd.out.ext (HB.out.trans (hB2.mono hsr))
        have hrdl : ∀ k off, 0 < l.length → ao = some ⟨k, off, none⟩ → k < w.heap.size := fun k off h0 e => by
          obtain ⟨b, o, h1, h2, _⟩ := hrd.pos h0
          rw [h1] at e
          cases e
          exact h2
        rw [hw2]
        clear hw2 hcb hc0 hf0
        have C0 := Lib.hid d0
        have F0 := Lib.hid e0
        have C1 := Lib.hid d1
        have Hrd2 := Lib.hid hrd2
        have hs2' : wr.heap.size + 2 ≤ w2.heap.size := by omega
        clear d0 e0 d1 hrd2 hs2 CB
        have hao : ∀ k off, bo = some ⟨k, off, none⟩ → k < wr.heap.size ∧ w0.heap.size ≤ k := fun k off e => by
          rcases Hoa.out with ⟨h1, _⟩ | ⟨b, h0, h1, h2⟩
          · rw [h1] at e; cases e
          · rw [h1] at e; cases e; exact ⟨h2, Hg.out _ h0⟩
        refine wpIn_range1 (gf := 44) (lb := #[.pointer (some ⟨wr.heap.size, 0, none⟩)]) rfl (enters_of Try.func44 (by kernel_rfl) rfl) (hit wr.heap.size) (fun _ => rfl)
          (fun b => b = wr.heap.size + 1) (fun b hb => ⟨by omega, fun h => h.elim (fun h => by omega) (fun ⟨h0, off, e⟩ => by have := hao _ _ e; omega)⟩)
          (fun b h => h.elim (fun h => by omega) (fun ⟨h0, off, e⟩ => by have := hao _ _ e; omega))
          (fun pre W => W.cell? ⟨wr.heap.size + 1, 0, none⟩ = some (.int .i64 pre.length) ∧ W.frozen? ⟨wr.heap.size + 1, 0, none⟩ = false)
          (fun _ _ _ => False)
          (fun pre A B h hs => ⟨(hs.cell rfl 0).trans h.1, (hs.frozen rfl 0).trans h.2⟩)
          (fun c pre A B h hs => h)
          (fun pre A h => trivial)
          (fun W hb => ⟨(hb.cell (p := ⟨_, 0, none⟩) (by simp; omega)).trans d2, (Hor.out.ext hB2).ext hb⟩)
          ⟨d3, e3⟩
          [(60, fun x => .int .i64 x.1), (61, fun x => .string (bs x.2)), (8, fun x => .int .i64 x.1), (9, fun x => .string (bs x.2))] ?assign ?body ?done (fun _ _ _ _ _ _ h => h.elim)
        case assign =>
          intro l x W K hK
          rw [show lineEnc x = #[.int .i64 x.1, .string (bs x.2)] from rfl]
          gi_wp2
          exact hK
        case body =>
          rintro l0 pre x W W0 _ _ honly hok _ _ ⟨hc3, hf3⟩ _
          simp only [List.foldl_cons, List.foldl_nil, List.setIfInBounds_toArray, List.set_cons_zero, List.set_cons_succ]
          obtain ⟨y, rfl, hy, hlt⟩ := pre_next hok
          rw [Hlj.out] at hy hlt
          have hc1 : W.cell? ⟨w.heap.size, 0, none⟩ = some (.slice ao l.length cap) := (honly.cell (by omega) (by rintro (h | h) <;> first | omega | exact h) 0).trans C1.out
          obtain ⟨bw, ow, rfl, hbw, hcells⟩ := Hrd2.out.pos (by omega)
          have hbw' := hrdl bw ow (by omega) rfl
          have hce : W.cell? ⟨bw, ow + pre.length, none⟩ = some (.string (bs y)) := by
            rw [honly.cell (by omega) (by rintro (h | h) <;> first | omega | exact h), hcells pre.length (by omega)]
            simp [strCells, hy]
          have hge : decide ((l.length : Int) ≤ (pre.length : Int)) = false := by simp; omega
          have hne : (((pre.length + 1 : Nat) : Int) != (pre.length : Int) + 1) = false := by simp
          have hir : (pre.length : Int) < (l.length : Int) := by omega
          have hpl : (pre.length : Int) ≤ 3000 := by omega
          clear hok honly hcells
          gi_wp2_with fail
          exact ⟨(Only.refl (fun b => b = wr.heap.size + 1) W).setCell (fun _ => rfl) _, by simp [cell_set_ite, hc3], by simp [hf3]⟩
        case done =>
          rintro D xs W hD rfl ⟨hc3, hf3⟩ honly hk
          rw [numFrom_length, Hlj.out] at hc3
          have hc0 : W.cell? ⟨w.heap.size + 1, 0, none⟩ = some (.bool false) := (honly.cell (by omega) (by rintro (h | h) <;> first | omega | exact h) 0).trans C0.out
          have hf0 : W.frozen? ⟨w.heap.size + 1, 0, none⟩ = false := (honly.frozen (by omega) (by rintro (h | h) <;> first | omega | exact h) 0).trans F0.out
          have hc1 : W.cell? ⟨w.heap.size, 0, none⟩ = some (.slice ao l.length cap) := (honly.cell (by omega) (by rintro (h | h) <;> first | omega | exact h) 0).trans C1.out
          have hbW : Below w.heap.size w W := (HBw.out.trans (hB2.mono (by omega))).trans (honly.below (by omega) (by rintro k hk (h | h) <;> first | omega | exact h))
          have hxx : ((l.length : Int) == l.length) = true := by simp
          have hDW : D < W.heap.size := (Array.getElem?_eq_some_iff.1 hk).1
          clear honly
          dsimp only
          gi_wp2_with (gi_at_call 15; refine (callsIn_wide.2 (awake11_any _)).mono ?_; rintro e w3 ⟨rfl, hB3⟩; have hd0 := (hB3.cell (p := ⟨w.heap.size + 1, 0, none⟩) (by show w.heap.size + 1 < W.heap.size; omega)).trans hc0; have hg0 := (hB3.frozen (p := ⟨w.heap.size + 1, 0, none⟩) (by show w.heap.size + 1 < W.heap.size; omega)).trans hf0)
          refine leaveM1 (v := .bool true) ((Below.heap_setCell _ _ _ _ (by simp; omega)).trans ((hB3.block D hDW).trans hk)) ?_ ⟨rfl, ?_⟩
          · have hD4 : w.heap.size + 1 ≠ D := by omega
            simp [results, Try.results8, go_sem, hD4, hd0]
          · exact ext_put ((hbW.trans (hB3.mono hbW.size)).setCell (by simp) _) (by omega)
end Go.Proofs.Ytbleacpdobjdaaa
