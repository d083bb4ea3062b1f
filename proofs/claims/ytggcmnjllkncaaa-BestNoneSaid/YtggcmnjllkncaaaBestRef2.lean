/- The reference's Best: of one source's visits the best ones. -/
import Derived.Test.YtggcmnjllkncaaaBestRef
namespace Go.Proofs.Ytggcmnjllkncaaa
set_option linter.unusedSimpArgs false
set_option linter.unusedVariables false
set_option maxRecDepth 100000
open Go.RowKit

def bestI (L : List VisD) (w : World) (v5 v12 : Value) (wr : World) : Prop :=
  ∃ (k : Nat) (ao : Option Addr) (cap : Nat), k ≤ L.length ∧ v12 = .int .i64 (k : Nat) ∧ v5 = .slice ao k cap ∧ k ≤ cap ∧ cap ≤ maxLen ∧ RdS visRep (fun q => w.heap.size ≤ q) wr ao (sortV (L.take k)) ∧ Below w.heap.size w wr
def bestJ (k : Nat) (out : List VisD) (x : VisD) (wx : World) (v7 : Value) (wr : World) : Prop := ∃ j, j ≤ k ∧ v7 = .int .i64 (j : Nat) ∧ (∀ i, i < j → betV x (vat out i) = false) ∧ Below wx.heap.size wx wr
theorem ins_at {out : List VisD} {x : VisD} {j : Nat} (hj : j ≤ out.length) (h : ∀ i, i < j → betV x (vat out i) = false) (he : j = out.length ∨ betV x (vat out j) = true) : insV x out = out.take j ++ [x] ++ out.drop j := by
  unfold insV
  have h1 : out.takeWhile (fun y => !betV x y) = out.take j ∧ out.dropWhile (fun y => !betV x y) = out.drop j := by
    have hsplit : out = out.take j ++ out.drop j := (List.take_append_drop j out).symm
    have hall : ∀ y ∈ out.take j, (!betV x y) = true := fun y hy => by
      obtain ⟨i, hi, rfl⟩ := List.mem_iff_getElem.1 hy
      rw [List.length_take] at hi
      have := h i (by omega)
      rw [vat_get (by omega)] at this
      rw [List.getElem_take, this]; rfl
    have hd : (out.drop j).takeWhile (fun y => !betV x y) = [] ∧ (out.drop j).dropWhile (fun y => !betV x y) = out.drop j := by
      rcases he with he | he
      · rw [List.drop_eq_nil_of_le (by omega)]; exact ⟨rfl, rfl⟩
      · by_cases hl : j < out.length
        · rw [vat_get hl] at he
          rw [List.drop_eq_getElem_cons hl]
          exact ⟨List.takeWhile_cons_of_neg (by simp [he]), List.dropWhile_cons_of_neg (by simp [he])⟩
        · rw [List.drop_eq_nil_of_le (by omega)]; exact ⟨rfl, rfl⟩
    refine ⟨?_, ?_⟩
    · rw [hsplit, List.takeWhile_append_of_pos hall, hd.1]; simp
    · rw [hsplit, List.dropWhile_append_of_pos hall, hd.2]; simp
  rw [h1.1, h1.2]
/-- s[:k], s[k:] -/
theorem takeV_run (ao : Option Addr) (len cap k : Nat) (hk : k ≤ cap) (W : World) : (Instr.sliceAt 22 (.slice ao len cap) none (some (.int .i64 (k : Nat))) none).run Try.prog W = .ok (.slice ao k cap) W := by
  have hu : Try.prog.underlying 22 = some (.slice (Try.prog.elem 22)) := by kernel_rfl
  rw [run_sliceAt_slice W 22 _ _ _ _ hu, run_slice_h W 22 ao len cap hu .i64 (k : Int) (by omega) (by omega)]
  have hs : (sizeOf (Try.prog.elem 22)).run Try.prog W = .ok 3 W := by kernel_rfl
  rw [hs]
  cases ao <;> simp [sliced, Result.andThen] <;> exact fun _ => rfl
theorem dropV_run (ao : Option Addr) (len cap k : Nat) (hk : k ≤ len) (hc : len ≤ cap) : ∃ ao', (∀ W, (Instr.sliceAt 22 (.slice ao len cap) (some (.int .i64 (k : Nat))) none none).run Try.prog W = .ok (.slice ao' (len - k) (cap - k)) W) ∧
    ∀ fp W xs, xs.length = len → RdS visRep fp W ao xs → RdS visRep fp W ao' (xs.drop k) := by
  refine ⟨if cap = k then ao else ao.map (·.add (k * 3)), fun W => ?_, fun fp W xs hx h => ?_⟩
  · have hu : Try.prog.underlying 22 = some (.slice (Try.prog.elem 22)) := by kernel_rfl
    rw [run_sliceAt_slice W 22 _ _ _ _ hu, run_slice_l W 22 ao len cap hu .i64 (k : Int) (by omega) (by omega)]
    have hs : (sizeOf (Try.prog.elem 22)).run Try.prog W = .ok 3 W := by kernel_rfl
    rw [hs]
    simp [sliced, Result.andThen]
  · by_cases hkl : len - k = 0
    · rw [List.drop_eq_nil_of_le (by omega)]; exact .inl rfl
    · obtain ⟨b, off, rfl, _, _⟩ := rd_pos h (by omega)
      rw [if_neg (by omega)]
      have h2 := h.drop k
      rw [show k * visRep.size = k * 3 from rfl] at h2
      simpa [Addr.add_lit] using h2
set_option maxRecDepth 100000 in
set_option maxHeartbeats 6400000 in
theorem rbest_any (L : List VisD) (s : Nat) (most : Int) (ao : Option Addr) (cap : Nat) (fp : Nat → Prop) (w : World) (hs : ∀ x ∈ L, x.1 = s) (hl : L.length ≤ 1000) (hc : L.length ≤ cap) (hc2 : cap ≤ maxLen) (h0 : -9223372036854775808 ≤ most) (h1 : most ≤ 9223372036854775807) (hrd : RdS visRep fp w ao L) :
    Calls Try.prog 11 #[.slice ao L.length cap, .int .i64 most] w (RowsVis (bestL L most.toNat) w) := by
  have HL := Lib.hid hl
  have HR := Lib.hid hrd
  have H01 := Lib.hid (And.intro h0 h1)
  have HS := Lib.hid hs
  have hE := visElemS
  obtain ⟨w1, hw1⟩ : ∃ w1, w1 = w.alloc (.cells #[] 31) := ⟨_, rfl⟩
  have HB1 := Lib.hid (show Below w.heap.size w w1 by rw [hw1]; exact ext_alloc w _)
  clear hl hrd hs hc hc2 h0 h1
  go_enter Try.func11, Try.ntmps11
  go_wp2_with fail
  rw [← hw1]
  clear hw1
  go_loopw [5, 6, 7, 8, 12] (fun v5 _ _ _ v12 wr => bestI L w v5 v12 wr) (fun _ _ _ _ v12 _ => L.length - (intOf v12).toNat)
  case atStart => exact ⟨0, _, 0, Nat.zero_le _, rfl, rfl, Nat.le_refl _, Nat.zero_le _, .inl rfl, HB1.out⟩
  case round =>
    obtain ⟨k, a5, c5, hk, rfl, rfl, hkc, hcm, hrd5, hB⟩ := hrel
    rename World => wo
    have HRo := Lib.hid (HR.out.ext hB)
    have hzB := hB.size
    have HB := Lib.hid hB
    have HR5 := Lib.hid hrd5
    have hsl : (sortV (L.take k)).length = k := by rw [(sortV_all _).2.length_eq, List.length_take]; omega
    have HSl := Lib.hid hsl
    clear hB hrd5 hsl
    by_cases hlt : k < L.length
    · have hkb : k ≤ 1000 := by have := HL.out; omega
      obtain ⟨b, off, rfl, _, hbl, x0, x1, x2, hx⟩ := HRo.out.vis k hlt
      have hxs : vat L k = L[k] := vat_get hlt
      have HTK := Lib.hid (show sortV (L.take (k + 1)) = insV (vat L k) (sortV (L.take k)) by rw [take_snoc hlt, hxs, sortV_snoc])
      have HX1 := Lib.hid (show (vat L k).1 = s by rw [hxs]; exact HS.out _ (List.getElem_mem hlt))
      have HX := Lib.hid hx
      clear hxs hx
      obtain ⟨X, hX⟩ : ∃ X, vat L k = X := ⟨_, rfl⟩
      rw [hX] at HTK HX1 HX x0 x1 x2
      clear hX
      have HO1 := Lib.hid (show ∀ y ∈ sortV (L.take k), y.1 = s from fun y hy => HS.out y (List.mem_of_mem_take ((sortV_all _).2.mem_iff.1 hy)))
      obtain ⟨out, hout⟩ : ∃ out, sortV (L.take k) = out := ⟨_, rfl⟩
      rw [hout] at HTK HR5 HSl HO1
      clear hout
      have hir : (k : Int) < (L.length : Int) := by omega
      obtain ⟨X0, X1, X2⟩ := X
      simp only at x0 x1 x2 HX1
      go_wp2_with fail
      go_loopw [7] (fun v7 wr => bestJ k out (X0, X1, X2) wo v7 wr) (fun v7 _ => k - (intOf v7).toNat)
      case atStart => exact ⟨0, Nat.zero_le _, rfl, fun i h => by omega, Below.refl _ _⟩
      case round =>
        obtain ⟨wp, rfl⟩ : ∃ wp : World, wp = wr := ⟨_, rfl⟩
        obtain ⟨j, hj, rfl, hin, hBp⟩ := hrel
        have HIn := Lib.hid hin
        have HBp := Lib.hid hBp
        have hzp := hBp.size
        clear hin hBp
        have hbp : b < wp.heap.size := by omega
        have y0 := ((bcell HBp.out).1 b _ hbl).trans x0
        have y1 := ((bcell HBp.out).1 b _ hbl).trans x1
        have y2 := ((bcell HBp.out).1 b _ hbl).trans x2
        have HRp := Lib.hid (HR5.out.ext HBp.out)
        by_cases hjk : j < k
        · obtain ⟨b2, o2, rfl, _, hbl2, v0, v1, v2, _⟩ := HRp.out.vis j (by rw [HSl.out]; exact hjk)
          have HBt := Lib.hid (show ∀ W, Calls Try.prog 17 #[.agg (visCs (X0, X1, X2)).toArray, .agg (visCs (vat out j)).toArray] W (RetB (.bool (betV (X0, X1, X2) (vat out j))) W) from fun W => by
            have h := rbetter_any (X0, X1, X2) (vat out j) W
            rwa [betR_same (by rw [vat_get (by rw [HSl.out]; exact hjk), HO1.out _ (List.getElem_mem _)]; exact HX1.out)] at h)
          obtain ⟨Y, hY⟩ : ∃ Y, vat out j = Y := ⟨_, rfl⟩
          rw [hY] at HBt v0 v1 v2
          have HYe := Lib.hid hY
          clear hY
          obtain ⟨Y0, Y1, Y2⟩ := Y
          simp only at v0 v1 v2
          simp only [visCs] at HBt
          have hjr : (j : Int) < (k : Int) := by omega
          have hjr2 : decide ((j : Int) < (k : Int)) = true := decide_eq_true hjr
          have hir2 := hir
          have HSk := Lib.hid (show ∀ W, Below wp.heap.size wp W → (W.cell? ⟨b, off + k * 3, none⟩ = some (.int .u32 (X0 : Nat)) ∧ W.cell? ⟨b, off + k * 3 + 1, none⟩ = some (.int .u32 (X1 : Nat)) ∧ W.cell? ⟨b, off + k * 3 + 2, none⟩ = some (.int .u64 (X2 : Nat))) ∧ W.cell? ⟨b2, o2 + j * 3, none⟩ = some (.int .u32 (Y0 : Nat)) ∧ W.cell? ⟨b2, o2 + j * 3 + 1, none⟩ = some (.int .u32 (Y1 : Nat)) ∧ W.cell? ⟨b2, o2 + j * 3 + 2, none⟩ = some (.int .u64 (Y2 : Nat)) from fun W h =>
            ⟨⟨((bcell h).1 b _ hbp).trans y0, ((bcell h).1 b _ hbp).trans y1, ((bcell h).1 b _ hbp).trans y2⟩, ((bcell h).1 b2 _ hbl2).trans v0, ((bcell h).1 b2 _ hbl2).trans v1, ((bcell h).1 b2 _ hbl2).trans v2⟩)
          go_wp2_with fail
          refine wp_region_held (S := fun w' => (w'.cell? ⟨b, off + k * 3, none⟩ = some (.int .u32 (X0 : Nat)) ∧ w'.cell? ⟨b, off + k * 3 + 1, none⟩ = some (.int .u32 (X1 : Nat)) ∧ w'.cell? ⟨b, off + k * 3 + 2, none⟩ = some (.int .u64 (X2 : Nat))) ∧ w'.cell? ⟨b2, o2 + j * 3, none⟩ = some (.int .u32 (Y0 : Nat)) ∧ w'.cell? ⟨b2, o2 + j * 3 + 1, none⟩ = some (.int .u32 (Y1 : Nat)) ∧ w'.cell? ⟨b2, o2 + j * 3 + 2, none⟩ = some (.int .u64 (Y2 : Nat))) (by kernel_rfl) ?_
          have hS0 := HSk.out _ (ext_drew wp)
          change wpAnyH _ _ _ _ _ _ _ _ (World.drew _)
          refine wpAnyH_take (i := 0) (oi := ⟨some 15, _, _, _, _, _⟩) (v := ?_) rfl (by kernel_rfl) (by kernel_rfl) (by kernel_rfl) (fun _ _ _ h => h) (Or.inl ⟨by rfl, ?_⟩) hS0 ?_
          rotate_left
          · (intro w' hSw; obtain ⟨⟨s0, s1, s2⟩, s3, s4, s5⟩ := hSw; go_simp; try (with_reducible rfl))
          simp only [Act.put, List.setIfInBounds_toArray, List.set_cons_zero, List.set_cons_succ]
          refine wpAnyH_take (i := 1) (oi := ⟨some 16, _, _, _, _, _⟩) (v := ?_) rfl (by kernel_rfl) (by kernel_rfl) (by kernel_rfl) (fun _ _ _ h => h) (Or.inl ⟨by rfl, ?_⟩) hS0 ?_
          rotate_left
          · (intro w' hSw; obtain ⟨⟨s0, s1, s2⟩, s3, s4, s5⟩ := hSw; go_simp; try (with_reducible rfl))
          simp only [Act.put, List.setIfInBounds_toArray, List.set_cons_zero, List.set_cons_succ]
          refine wpAnyH_take (i := 2) (oi := ⟨some 17, _, _, _, _, _⟩) (v := ?_) rfl (by kernel_rfl) (by kernel_rfl) (by kernel_rfl) (fun _ _ _ h => h) (Or.inl ⟨by rfl, ?_⟩) hS0 ?_
          rotate_left
          · (intro w' hSw; obtain ⟨⟨s0, s1, s2⟩, s3, s4, s5⟩ := hSw; go_simp; try (with_reducible rfl))
          simp only [Act.put, List.setIfInBounds_toArray, List.set_cons_zero, List.set_cons_succ]
          refine wpAnyH_take (i := 3) (oi := ⟨some 18, _, _, _, _, _⟩) (v := ?_) rfl (by kernel_rfl) (by kernel_rfl) (by kernel_rfl) (fun _ _ _ h => h) (Or.inl ⟨by rfl, ?_⟩) hS0 ?_
          rotate_left
          · (intro w' hSw; obtain ⟨⟨s0, s1, s2⟩, s3, s4, s5⟩ := hSw; go_simp; try (with_reducible rfl))
          simp only [Act.put, List.setIfInBounds_toArray, List.set_cons_zero, List.set_cons_succ]
          refine wpAnyH_take (i := 4) (oi := ⟨some 19, _, _, _, _, _⟩) (v := ?_) rfl (by kernel_rfl) (by kernel_rfl) (by kernel_rfl) (fun _ _ _ h => h) (Or.inl ⟨by rfl, ?_⟩) hS0 ?_
          rotate_left
          · (intro w' hSw; obtain ⟨⟨s0, s1, s2⟩, s3, s4, s5⟩ := hSw; go_simp; try (with_reducible rfl))
          simp only [Act.put, List.setIfInBounds_toArray, List.set_cons_zero, List.set_cons_succ]
          refine wpAnyH_take (i := 5) (oi := ⟨some 20, _, _, _, _, _⟩) (v := ?_) rfl (by kernel_rfl) (by kernel_rfl) (by kernel_rfl) (fun _ _ _ h => h) (Or.inl ⟨by rfl, ?_⟩) hS0 ?_
          rotate_left
          · (intro w' hSw; obtain ⟨⟨s0, s1, s2⟩, s3, s4, s5⟩ := hSw; go_simp; try (with_reducible rfl))
          simp only [Act.put, List.setIfInBounds_toArray, List.set_cons_zero, List.set_cons_succ]
          refine wpAnyH_take (i := 6) (oi := ⟨some 21, _, _, _, _, _⟩) (v := ?_) rfl (by kernel_rfl) (by kernel_rfl) (by kernel_rfl) (fun _ _ _ h => h) (Or.inl ⟨by rfl, ?_⟩) hS0 ?_
          rotate_left
          · (intro w' hSw; obtain ⟨⟨s0, s1, s2⟩, s3, s4, s5⟩ := hSw; go_simp; try (with_reducible rfl))
          simp only [Act.put, List.setIfInBounds_toArray, List.set_cons_zero, List.set_cons_succ]
          refine wpAnyH_take (i := 7) (oi := ⟨some 22, _, _, _, _, _⟩) (v := ?_) rfl (by kernel_rfl) (by kernel_rfl) (by kernel_rfl) (fun _ _ _ h => h) (Or.inl ⟨by rfl, ?_⟩) hS0 ?_
          rotate_left
          · (intro w' hSw; obtain ⟨⟨s0, s1, s2⟩, s3, s4, s5⟩ := hSw; go_simp; try (with_reducible rfl))
          simp only [Act.put, List.setIfInBounds_toArray, List.set_cons_zero, List.set_cons_succ]
          refine wpAnyH_take (i := 8) (oi := ⟨some 23, _, _, _, _, _⟩) (v := ?_) rfl (by kernel_rfl) (by kernel_rfl) (by kernel_rfl) (fun _ _ _ h => h) (Or.inl ⟨by rfl, ?_⟩) hS0 ?_
          rotate_left
          · (intro w' hSw; obtain ⟨⟨s0, s1, s2⟩, s3, s4, s5⟩ := hSw; go_simp; try (with_reducible rfl))
          simp only [Act.put, List.setIfInBounds_toArray, List.set_cons_zero, List.set_cons_succ]
          refine wpAnyH_take (i := 9) (oi := ⟨some 24, _, _, _, _, _⟩) (v := ?_) rfl (by kernel_rfl) (by kernel_rfl) (by kernel_rfl) (fun _ _ _ h => h) (Or.inl ⟨by rfl, ?_⟩) hS0 ?_
          rotate_left
          · (intro w' hSw; obtain ⟨⟨s0, s1, s2⟩, s3, s4, s5⟩ := hSw; go_simp; try (with_reducible rfl))
          simp only [Act.put, List.setIfInBounds_toArray, List.set_cons_zero, List.set_cons_succ]
          refine wpAnyH_take (i := 10) (oi := ⟨some 25, _, _, _, _, _⟩) (v := ?_) rfl (by kernel_rfl) (by kernel_rfl) (by kernel_rfl) (fun _ _ _ h => h) (Or.inl ⟨by rfl, ?_⟩) hS0 ?_
          rotate_left
          · (intro w' hSw; obtain ⟨⟨s0, s1, s2⟩, s3, s4, s5⟩ := hSw; go_simp; try (with_reducible rfl))
          simp only [Act.put, List.setIfInBounds_toArray, List.set_cons_zero, List.set_cons_succ]
          refine wpAnyH_take (i := 11) (oi := ⟨some 26, _, _, _, _, _⟩) (v := ?_) rfl (by kernel_rfl) (by kernel_rfl) (by kernel_rfl) (fun _ _ _ h => h) (Or.inl ⟨by rfl, ?_⟩) hS0 ?_
          rotate_left
          · (intro w' hSw; obtain ⟨⟨s0, s1, s2⟩, s3, s4, s5⟩ := hSw; go_simp; try (with_reducible rfl))
          simp only [Act.put, List.setIfInBounds_toArray, List.set_cons_zero, List.set_cons_succ]
          refine wpAnyH_take (i := 12) (oi := ⟨some 27, _, _, _, _, _⟩) (v := ?_) rfl (by kernel_rfl) (by kernel_rfl) (by kernel_rfl) (fun _ _ _ h => h) (Or.inl ⟨by rfl, ?_⟩) hS0 ?_
          rotate_left
          · (intro w' hSw; obtain ⟨⟨s0, s1, s2⟩, s3, s4, s5⟩ := hSw; go_simp; try (with_reducible rfl))
          simp only [Act.put, List.setIfInBounds_toArray, List.set_cons_zero, List.set_cons_succ]
          refine wpAnyH_all (rs := [13]) (by kernel_rfl) (by simp) ?_
          intro i hi
          rw [List.mem_singleton] at hi
          subst hi
          refine wpOp_runG (o := ⟨some 28, _, _, _, _, _⟩) rfl rfl fun K' hK => ?_
          go_simp
          refine (HBt.out _).mono ?_
          rintro e w2 ⟨rfl, hB2⟩
          have hBd : Below wp.heap.size wp w2 := (ext_drew wp).trans hB2
          have hS1 := HSk.out _ hBd
          have HBd := Lib.hid hBd
          clear hB2 hS0 hBd
          have hS0 := hS1
          clear hS1
          refine hK _ _ ⟨hS0, ?_⟩
          clear hK K'
          try simp only [Act.put, List.setIfInBounds_toArray, List.set_cons_zero, List.set_cons_succ]
          refine wpAnyH_take (i := 14) (oi := ⟨some 29, _, _, _, _, _⟩) (v := ?_) rfl (by kernel_rfl) (by kernel_rfl) (by kernel_rfl) (fun _ _ _ h => h) (Or.inl ⟨by rfl, ?_⟩) hS0 ?_
          rotate_left
          · (intro w' hSw; obtain ⟨⟨s0, s1, s2⟩, s3, s4, s5⟩ := hSw; go_simp; try (with_reducible rfl))
          simp only [Act.put, List.setIfInBounds_toArray, List.set_cons_zero, List.set_cons_succ]
          refine wpAnyH_take (i := 15) (oi := ⟨some 30, _, _, _, _, _⟩) (v := ?_) rfl (by kernel_rfl) (by kernel_rfl) (by kernel_rfl) (fun _ _ _ h => h) (Or.inl ⟨by rfl, ?_⟩) hS0 ?_
          rotate_left
          · (intro w' hSw; obtain ⟨⟨s0, s1, s2⟩, s3, s4, s5⟩ := hSw; go_simp; try (with_reducible rfl))
          simp only [Act.put, List.setIfInBounds_toArray, List.set_cons_zero, List.set_cons_succ]
          refine wpAnyH_done (by kernel_rfl) ?_ _
          cases hb : betV (X0, X1, X2) (Y0, Y1, Y2) with
          | false =>
            go_wp2_with fail
            go_roundw
            case rel =>
              refine ⟨j + 1, by omega, by go_num, fun i hi => ?_, HBp.out.trans (HBd.out.mono hzp)⟩
              by_cases hij : i < j
              · exact HIn.out i hij
              · obtain rfl : i = j := by omega
                rw [HYe.out]; exact hb
            case measure => simp [intOf]; omega
          | true =>
            have Hins := Lib.hid (ins_at (x := (X0, X1, X2)) (by rw [HSl.out]; exact hj) HIn.out (.inr (by rw [HYe.out]; exact hb)))
            obtain ⟨⟨y0, y1, y2⟩, _, _, _⟩ := hS0
            have HBq := Lib.hid (HBp.out.trans (HBd.out.mono hzp))
            have HRq := Lib.hid (HRp.out.ext HBd.out)
            have hbq : b < w2.heap.size := by have := HBd.out.size; omega
            obtain ⟨css1, hall1, hsrc1⟩ := RdS.srcAll oneVis (tx := 22) Try.underlying22 (HRq.out.take j)
            rw [List.length_take, Nat.min_eq_left (by rw [HSl.out]; exact hj)] at hsrc1
            obtain ⟨ad, hdr, hrdd⟩ := dropV_run (some ⟨b2, o2, none⟩) k c5 j hj hkc
            obtain ⟨css2, hall2, hsrc2⟩ := RdS.srcAll oneVis (tx := 22) Try.underlying22 (hrdd _ w2 out HSl.out HRq.out)
            rw [List.length_drop, HSl.out] at hsrc2
            obtain ⟨dd, hdd⟩ : ∃ dd, k - j = dd := ⟨_, rfl⟩
            obtain ⟨de, hde⟩ : ∃ de, c5 - j = de := ⟨_, rfl⟩
            rw [hdd] at hsrc2 hdr
            rw [hde] at hdr
            have Hdd := Lib.hid (show j + 1 + dd = k + 1 by omega)
            have hdb : dd ≤ 1000 := by omega
            clear hdd hde
            have htk := fun W => takeV_run (some ⟨b2, o2, none⟩) k c5 j (by omega) W
            have Hall1 := Lib.hid hall1
            have Hall2 := Lib.hid hall2
            have Hsrc1 := Lib.hid hsrc1
            have Hsrc2 := Lib.hid hsrc2
            clear hall1 hall2 hsrc1 hsrc2 hrdd
            go_wp2_with (first
              | (at_builtin; refine wpList_app rfl (.tmp 33) (.tmp 36) 22 22 rfl hE (Own.emptyAt w2 31 3 (w2).heap.size rfl) rfl rfl (Hsrc1.out _ (ext_alloc w2 _) c5) (by simp [maxLen]; omega) (by omega) ?_; intro ao4 cap4 g4 w4 ho4 hg4 hon4; obtain ⟨hG4, hBB4⟩ := app_blocksM (w := w2) (W := (w2).alloc (.cells #[] 31)) (fun k h => by cases h; exact Nat.le_refl _) (ext_alloc w2 _) hg4 hon4; rw [Nat.zero_add, List.nil_append] at ho4; try rw [Nat.zero_add]; have Ho4 := Lib.hid ho4; have HG4 := Lib.hid hG4; have HB4 := Lib.hid hBB4; have z0 := ((bcell hBB4).1 b _ hbq).trans y0; have z1 := ((bcell hBB4).1 b _ hbq).trans y1; have z2 := ((bcell hBB4).1 b _ hbq).trans y2; clear ho4 hg4 hon4 hG4 hBB4)
              | (at_builtin; refine wpList_app rfl (.tmp 38) (.tmp 43) 22 22 rfl hE (Ho4.out.ext (ext_alloc w4 _)) rfl rfl (Src.ofSlice (w4.alloc (.cells #[.int .u32 (X0 : Nat), .int .u32 (X1 : Nat), .int .u64 (X2 : Nat)] 31)) Try.underlying22 ⟨w4.heap.size, 0, none⟩ 1 1 [.int .u32 (X0 : Nat), .int .u32 (X1 : Nat), .int .u64 (X2 : Nat)] rfl (fun j u hu => by rw [Addr.add_lit, Nat.zero_add, World.cell?_alloc_new]; simpa using hu) (by simp [Value.oneCell'])) (by simp [maxLen]; omega) (by omega) ?_; intro ao5 cap5 g5 w5 ho5 hg5 hon5; obtain ⟨hG5, hBB5⟩ := app_blocksM (w := w2) (W := w4.alloc (.cells #[.int .u32 (X0 : Nat), .int .u32 (X1 : Nat), .int .u64 (X2 : Nat)] 31)) HG4.out (HB4.out.alloc HB4.out.size _) hg5 hon5; have Ho5 := Lib.hid ho5; have HG5 := Lib.hid hG5; have HB5 := Lib.hid hBB5; clear ho5 hg5 hon5 hG5 hBB5)
              | (at_builtin; (refine wpList_app rfl (.tmp 45) (.tmp 48) 22 22 rfl hE Ho5.out rfl rfl (Hsrc2.out w5 HB5.out de) (by simp [maxLen]; omega) (by omega) ?_); intro ao6 cap6 g6 w6 ho6 hg6 hon6; obtain ⟨hG6, hBB6⟩ := app_blocksM (w := w2) (W := w5) HG5.out HB5.out hg6 hon6; rw [Hdd.out] at ho6 ⊢; have Ho6 := Lib.hid ho6; have HG6 := Lib.hid hG6; have HB6 := Lib.hid hBB6; clear ho6 hg6 hon6 hG6 hBB6))
            go_roundw
            case rel =>
              have hO : OwnS visRep (fun _ => False) w6 ao6 cap6 g6 31 (sortV (L.take (k + 1))) := by
                refine ⟨css1 ++ [[Value.int .u32 (X0 : Nat), Value.int .u32 (X1 : Nat), Value.int .u64 (X2 : Nat)]] ++ css2, ?_, ?_⟩
                · have hlen : (sortV (L.take (k + 1))).length = k + 1 := by rw [(sortV_all _).2.length_eq, List.length_take]; omega
                  have h : Own w6 ao6 cap6 g6 31 3 (sortV (L.take (k + 1))).length (css1 ++ [[Value.int .u32 (X0 : Nat), Value.int .u32 (X1 : Nat), Value.int .u64 (X2 : Nat)]] ++ css2).flatten := by
                    rw [hlen]; simpa using Ho6.out
                  exact h
                · rw [HTK.out, Hins.out]
                  exact all2_append (all2_append (vis_nofp Hall1.out _) (.cons (visRep_ok HX.out) .nil)) (vis_nofp Hall2.out _)
              have hcl := hO.capLe
              rw [show (sortV (L.take (k + 1))).length = k + 1 by rw [(sortV_all _).2.length_eq, List.length_take]; omega] at hcl
              exact ⟨k + 1, ao6, cap6, by omega, by go_num, rfl, hcl.1, hcl.2, hO.rd.mono (fun q hq _ => by
                rcases hq with h | h
                · exact h.elim
                · have := HG6.out q h; have := HBq.out.size; omega), HB.out.trans ((HBq.out.mono hzB).trans (HB6.out.mono (by have := HBq.out.size; omega)))⟩
            case measure => simp [intOf]; omega
        · obtain rfl : k = j := by omega
          have hjr : decide ((k : Int) < (k : Int)) = false := by simp
          have Hins := Lib.hid (ins_at (x := (X0, X1, X2)) (by rw [HSl.out]; exact Nat.le_refl _) HIn.out (.inl HSl.out.symm))
          go_wp2_with fail
          go_quiet (fail)
          obtain ⟨wq, hwq⟩ : ∃ wq, wq = wp.drewN nq := ⟨_, rfl⟩
          rw [← hwq]
          have hBd : Below wp.heap.size wp wq := by rw [hwq]; exact ext_drewN wp nq
          clear hwq
          have HBq := Lib.hid (HBp.out.trans (hBd.mono hzp))
          have HRq := Lib.hid (HRp.out.ext hBd)
          have hbq : b < wq.heap.size := by have := hBd.size; omega
          have y0 := ((bcell hBd).1 b _ hbp).trans y0
          have y1 := ((bcell hBd).1 b _ hbp).trans y1
          have y2 := ((bcell hBd).1 b _ hbp).trans y2
          clear hBd
          obtain ⟨css1, hall1, hsrc1⟩ := RdS.srcAll oneVis (tx := 22) Try.underlying22 (HRq.out.take k)
          rw [List.length_take, Nat.min_eq_left (by rw [HSl.out]; exact hj)] at hsrc1
          obtain ⟨ad, hdr, hrdd⟩ := dropV_run (a5) k c5 k hj hkc
          obtain ⟨css2, hall2, hsrc2⟩ := RdS.srcAll oneVis (tx := 22) Try.underlying22 (hrdd _ wq out HSl.out HRq.out)
          rw [List.length_drop, HSl.out] at hsrc2
          obtain ⟨dd, hdd⟩ : ∃ dd, k - k = dd := ⟨_, rfl⟩
          obtain ⟨de, hde⟩ : ∃ de, c5 - k = de := ⟨_, rfl⟩
          rw [hdd] at hsrc2 hdr
          rw [hde] at hdr
          have Hdd := Lib.hid (show k + 1 + dd = k + 1 by omega)
          have hdb : dd ≤ 1000 := by omega
          clear hdd hde
          have htk := fun W => takeV_run (a5) k c5 k (by omega) W
          have Hall1 := Lib.hid hall1
          have Hall2 := Lib.hid hall2
          have Hsrc1 := Lib.hid hsrc1
          have Hsrc2 := Lib.hid hsrc2
          clear hall1 hall2 hsrc1 hsrc2 hrdd
          go_wp2_with (first
            | (at_builtin; refine wpList_app rfl (.tmp 33) (.tmp 36) 22 22 rfl hE (Own.emptyAt wq 31 3 (wq).heap.size rfl) rfl rfl (Hsrc1.out _ (ext_alloc wq _) c5) (by simp [maxLen]; omega) (by omega) ?_; intro ao4 cap4 g4 w4 ho4 hg4 hon4; obtain ⟨hG4, hBB4⟩ := app_blocksM (w := wq) (W := (wq).alloc (.cells #[] 31)) (fun k h => by cases h; exact Nat.le_refl _) (ext_alloc wq _) hg4 hon4; rw [Nat.zero_add, List.nil_append] at ho4; try rw [Nat.zero_add]; have Ho4 := Lib.hid ho4; have HG4 := Lib.hid hG4; have HB4 := Lib.hid hBB4; have z0 := ((bcell hBB4).1 b _ hbq).trans y0; have z1 := ((bcell hBB4).1 b _ hbq).trans y1; have z2 := ((bcell hBB4).1 b _ hbq).trans y2; clear ho4 hg4 hon4 hG4 hBB4)
            | (at_builtin; refine wpList_app rfl (.tmp 38) (.tmp 43) 22 22 rfl hE (Ho4.out.ext (ext_alloc w4 _)) rfl rfl (Src.ofSlice (w4.alloc (.cells #[.int .u32 (X0 : Nat), .int .u32 (X1 : Nat), .int .u64 (X2 : Nat)] 31)) Try.underlying22 ⟨w4.heap.size, 0, none⟩ 1 1 [.int .u32 (X0 : Nat), .int .u32 (X1 : Nat), .int .u64 (X2 : Nat)] rfl (fun j u hu => by rw [Addr.add_lit, Nat.zero_add, World.cell?_alloc_new]; simpa using hu) (by simp [Value.oneCell'])) (by simp [maxLen]; omega) (by omega) ?_; intro ao5 cap5 g5 w5 ho5 hg5 hon5; obtain ⟨hG5, hBB5⟩ := app_blocksM (w := wq) (W := w4.alloc (.cells #[.int .u32 (X0 : Nat), .int .u32 (X1 : Nat), .int .u64 (X2 : Nat)] 31)) HG4.out (HB4.out.alloc HB4.out.size _) hg5 hon5; have Ho5 := Lib.hid ho5; have HG5 := Lib.hid hG5; have HB5 := Lib.hid hBB5; clear ho5 hg5 hon5 hG5 hBB5)
            | (at_builtin; (refine wpList_app rfl (.tmp 45) (.tmp 48) 22 22 rfl hE Ho5.out rfl rfl (Hsrc2.out w5 HB5.out de) (by simp [maxLen]; omega) (by omega) ?_); intro ao6 cap6 g6 w6 ho6 hg6 hon6; obtain ⟨hG6, hBB6⟩ := app_blocksM (w := wq) (W := w5) HG5.out HB5.out hg6 hon6; rw [Hdd.out] at ho6 ⊢; have Ho6 := Lib.hid ho6; have HG6 := Lib.hid hG6; have HB6 := Lib.hid hBB6; clear ho6 hg6 hon6 hG6 hBB6))
          go_roundw
          case rel =>
            have hO : OwnS visRep (fun _ => False) w6 ao6 cap6 g6 31 (sortV (L.take (k + 1))) := by
              refine ⟨css1 ++ [[Value.int .u32 (X0 : Nat), Value.int .u32 (X1 : Nat), Value.int .u64 (X2 : Nat)]] ++ css2, ?_, ?_⟩
              · have hlen : (sortV (L.take (k + 1))).length = k + 1 := by rw [(sortV_all _).2.length_eq, List.length_take]; omega
                have h : Own w6 ao6 cap6 g6 31 3 (sortV (L.take (k + 1))).length (css1 ++ [[Value.int .u32 (X0 : Nat), Value.int .u32 (X1 : Nat), Value.int .u64 (X2 : Nat)]] ++ css2).flatten := by
                  rw [hlen]; simpa using Ho6.out
                exact h
              · rw [HTK.out, Hins.out]
                exact all2_append (all2_append (vis_nofp Hall1.out _) (.cons (visRep_ok HX.out) .nil)) (vis_nofp Hall2.out _)
            have hcl := hO.capLe
            rw [show (sortV (L.take (k + 1))).length = k + 1 by rw [(sortV_all _).2.length_eq, List.length_take]; omega] at hcl
            exact ⟨k + 1, ao6, cap6, by omega, by go_num, rfl, hcl.1, hcl.2, hO.rd.mono (fun q hq _ => by
              rcases hq with h | h
              · exact h.elim
              · have := HG6.out q h; have := HBq.out.size; omega), HB.out.trans ((HBq.out.mono hzB).trans (HB6.out.mono (by have := HBq.out.size; omega)))⟩
          case measure => simp [intOf]; omega
    · obtain rfl : k = L.length := by omega
      rw [List.take_length] at HR5 HSl
      have hlb := HL.out
      clear hlt hk
      have HRet := Lib.hid (show ∀ q, q = min most.toNat L.length → ∀ e, e = Ending.returned (.slice a5 q c5) → RowsVis (bestL L most.toNat) w e wo from fun q hq e he => by
        have hbl : (bestL L most.toNat).length = q := by rw [bestL_len, hq]
        exact ⟨a5, c5, by rw [hbl]; exact he, by rw [hbl]; omega, hcm, HR5.out.take _, HB.out⟩)
      rcases Int.lt_or_le most 0 with hneg | hpos
      · have g1 : decide (most < 0) = true := decide_eq_true hneg
        have hm0 : min most.toNat L.length = 0 := by omega
        by_cases hL0 : L.length = 0
        · have HL0 := Lib.hid hL0
          have g2 : decide ((0 : Int) < (L.length : Int)) = false := decide_eq_false (by omega)
          have g2' : decide (0 < L.length) = false := decide_eq_false (by omega)
          clear hL0
          go_wp2_with fail
          go_ret
          exact HRet.out L.length (by have := HL0.out; omega) _ rfl
        · have g2 : decide ((0 : Int) < (L.length : Int)) = true := decide_eq_true (by omega)
          have g2' : decide (0 < L.length) = true := decide_eq_true (by omega)
          have htk := fun W => takeV_run a5 L.length c5 0 (Nat.zero_le _) W
          go_wp2_with fail
          go_ret
          exact HRet.out 0 hm0.symm _ rfl
      · obtain ⟨m, rfl⟩ := Int.eq_ofNat_of_zero_le hpos
        have g1 : decide ((m : Int) < 0) = false := decide_eq_false (by omega)
        by_cases hLm : m < L.length
        · have g2 : decide ((m : Int) < (L.length : Int)) = true := decide_eq_true (by omega)
          have g2' : decide (m < L.length) = true := decide_eq_true hLm
          have htk := fun W => takeV_run a5 L.length c5 m (by omega) W
          have HQ := Lib.hid (show m = min (m : Int).toNat L.length by omega)
          go_wp2_with fail
          go_ret
          exact HRet.out m HQ.out _ rfl
        · have g2 : decide ((m : Int) < (L.length : Int)) = false := decide_eq_false (by omega)
          have g2' : decide (m < L.length) = false := decide_eq_false hLm
          have HQ := Lib.hid (show L.length = min (m : Int).toNat L.length by omega)
          go_wp2_with fail
          go_ret
          exact HRet.out L.length HQ.out _ rfl
end Go.Proofs.Ytggcmnjllkncaaa
