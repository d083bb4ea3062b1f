/- BestNone's walk. -/
import Derived.Test.YtggcmnjllkncaaaBestOrderW
namespace Go.Proofs.Ytggcmnjllkncaaa
set_option linter.unusedSimpArgs false
set_option linter.unusedVariables false
set_option maxRecDepth 100000
open Go.RowKit

theorem none_better {M : List VisD} {m : Nat} {x r : VisD} (hx : x ∈ M) (hn : x ∉ bestL M m) (hr : r ∈ bestL M m) : betV x r = false := by
  have hs := (sortV_all M).1
  have hx2 : x ∈ sortV M := (sortV_all M).2.mem_iff.2 hx
  unfold bestL at hn hr
  unfold srtV at hs
  rw [← List.take_append_drop m (sortV M)] at hx2 hs
  rcases List.mem_append.1 hx2 with h | h
  · exact absurd h hn
  · exact (List.pairwise_append.1 hs).2.2 r hr x h
def noneI (L : List VisD) (w : World) (v5 : Value) (wr : World) : Prop := ∃ i, i ≤ L.length ∧ v5 = .int .i64 (i : Nat) ∧ Below w.heap.size w wr
def noneJ (i : Nat) (wx : World) (v6 : Value) (wr : World) : Prop := ∃ k, k ≤ i ∧ v6 = .int .i64 (k : Nat) ∧ Below wx.heap.size wx wr
def inI (R : List VisD) (x : VisD) (wx : World) (v10 v11 : Value) (wr : World) : Prop := ∃ k, k ≤ R.length ∧ v11 = .int .i64 (k : Nat) ∧ v10 = .bool (decide (x ∈ R.take k)) ∧ Below wx.heap.size wx wr
set_option maxRecDepth 100000 in
set_option maxHeartbeats 6400000 in
theorem bnone_walk (L : List VisD) (ao : Option Addr) (cap : Nat) (most : Int) (fp : Nat → Prop) (w : World) (h0 : -9223372036854775808 ≤ most) (h1 : most ≤ 9223372036854775807) (hrd : RdS visRep fp w ao L) :
    Calls Try.prog 6 #[.slice ao L.length cap, .int .i64 most] w (RetB (.bool true) w) := by
  have HA := Lib.hid awake29_any
  by_cases hl : L.length ≤ 60
  · have g1 : decide (60 < (L.length : Int)) = false := decide_eq_false (by omega)
    have g1' : decide (60 < L.length) = false := decide_eq_false (by omega)
    have HR := Lib.hid hrd
    have HL := Lib.hid hl
    have H01 := Lib.hid (And.intro h0 h1)
    clear hrd hl h0 h1
    go_enter Try.func6, Try.ntmps6
    go_wp2_with fail
    go_loopw [5, 6] (fun v5 _ wr => noneI L w v5 wr) (fun v5 _ _ => L.length - (intOf v5).toNat)
    case atStart => exact ⟨0, Nat.zero_le _, rfl, Below.refl _ _⟩
    case round =>
      obtain ⟨i, hi, rfl, hB⟩ := hrel
      rename World => wo
      have hib : i ≤ 60 := by have := HL.out; omega
      have hzB := hB.size
      have HB := Lib.hid hB
      clear hB
      by_cases hlt : i < L.length
      · obtain ⟨b, off, rfl, _, hbl, _, x1, _, _⟩ := (HR.out.ext HB.out).vis i hlt
        have hir : (i : Int) < (L.length : Int) := by omega
        go_wp2_with fail
        go_loopw [6] (fun v6 wr => noneJ i wo v6 wr) (fun v6 _ => i - (intOf v6).toNat)
        case atStart => exact ⟨0, Nat.zero_le _, rfl, Below.refl _ _⟩
        case round =>
          obtain ⟨wp, rfl⟩ : ∃ wp : World, wp = wr := ⟨_, rfl⟩
          obtain ⟨k, hk, rfl, hBp⟩ := hrel
          have HBp := Lib.hid hBp
          have hzp := hBp.size
          clear hBp
          by_cases hki : k < i
          · have y1 := ((bcell HBp.out).1 b _ hbl).trans x1
            obtain ⟨b2, off2, hab, _, _, _, z1, _, _⟩ := (HR.out.ext (HB.out.trans (HBp.out.mono hzB))).vis k (by omega)
            cases hab
            have hkr : (k : Int) < (L.length : Int) := by omega
            have hkr2 : (k : Int) < (i : Int) := by omega
            generalize (vat L i).2.1 = p at *
            generalize (vat L k).2.1 = q at *
            by_cases hpq : p = q
            · subst hpq
              have g2 : ((p : Int) == (p : Int)) = true := by simp
              go_wp2_with fail
              go_quiet (fail)
              go_wp2_with (go_at_call 7; refine (HA.out _).mono ?_; rintro e wA ⟨rfl, hBA⟩; have HBA := Lib.hid hBA; clear hBA)
              go_ret
              exact ⟨rfl, HB.out.trans ((HBp.out.trans (((ext_drewN wp _).trans HBA.out).mono hzp)).mono hzB)⟩
            · have g2 : ((p : Int) == (q : Int)) = false := beq_eq_false_iff_ne.2 (by omega)
              have g2' : (p == q) = false := beq_eq_false_iff_ne.2 hpq
              go_wp2_with fail
              go_quiet (fail)
              go_wp2_with fail
              go_roundw
              case rel => exact ⟨k + 1, by omega, by go_num, HBp.out.trans ((ext_drewN wp _).mono hzp)⟩
              case measure => simp [intOf]; omega
          · obtain rfl : k = i := by omega
            go_wp2_with fail
            go_roundw
            case rel => exact ⟨k + 1, by omega, by go_num, HB.out.trans (HBp.out.mono hzB)⟩
            case measure => simp [intOf]; omega
      · obtain rfl : i = L.length := by omega
        have hlb := HL.out
        have HOf := Lib.hid (of_any L 0 ao cap fp wo (by omega) (by omega) (HR.out.ext HB.out))
        have HMl := Lib.hid (show (ofL L 0).length = L.length by simp [ofL])
        have HMs := Lib.hid (show ∀ x ∈ ofL L 0, x.1 = 0 from fun x hx => by obtain ⟨y, _, rfl⟩ := List.mem_map.1 hx; rfl)
        obtain ⟨M, hM⟩ : ∃ M, ofL L 0 = M := ⟨_, rfl⟩
        rw [hM] at HOf HMl HMs
        clear hM hlt hi
        go_wp2_with (first
          | (go_at_call 8; refine HOf.out.mono ?_; rintro e w2 ⟨a, c, gown, rfl, hO, hG, hB2⟩; have HE := Lib.hid (eachone_any M 0 most a c _ w2 HMs.out (by have := HMl.out; omega) H01.out.1 H01.out.2 hO.rd); have HRM := Lib.hid hO.rd; have HB2 := Lib.hid (HB.out.trans (hB2.mono hzB)); clear hO hG hB2)
          | (go_at_call 15; refine HE.out.mono ?_; rintro e w3 ⟨a3, c3, rfl, _, _, hrd3, hB3⟩; have HR3 := Lib.hid hrd3; have HRM3 := Lib.hid (HRM.out.ext hB3); have HB3 := Lib.hid (HB2.out.trans (hB3.mono HB2.out.size)); clear hrd3 hB3))
        have HMl3 := Lib.hid (show M.length ≤ 60 by rw [HMl.out]; exact hlb)
        obtain ⟨R, hR⟩ : ∃ R, bestL M most.toNat = R := ⟨_, rfl⟩
        rw [hR] at HR3 ⊢
        have HRl := Lib.hid (show R.length = min most.toNat M.length by rw [← hR, bestL_len])
        have HNb := Lib.hid (show ∀ x ∈ M, x ∉ R → ∀ r ∈ R, betR x r = false from fun x hx hn r hr => by
          rw [← hR] at hn hr
          have hr2 : r ∈ M := (sortV_all M).2.mem_iff.1 (List.mem_of_mem_take hr)
          rw [betR_same (by rw [HMs.out x hx, HMs.out r hr2])]
          exact none_better hx hn hr)
        have HRb := Lib.hid (show R.length ≤ 60 by rw [HRl.out]; have := HMl3.out; omega)
        have hz3 := HB3.out.size
        clear hR
        go_loopw [9, 10, 11, 12] (fun v9 _ _ _ wr => noneI M w3 v9 wr) (fun v9 _ _ _ _ => M.length - (intOf v9).toNat)
        case atStart => exact ⟨0, Nat.zero_le _, rfl, Below.refl _ _⟩
        case round =>
          obtain ⟨wp, rfl⟩ : ∃ wp : World, wp = wr := ⟨_, rfl⟩
          obtain ⟨i, hi, rfl, hBp⟩ := hrel
          have HBp := Lib.hid hBp
          have hzp := hBp.size
          have hib : i ≤ 60 := by have := HMl3.out; omega
          clear hBp
          by_cases hlt : i < M.length
          · obtain ⟨b, off, rfl, _, hbl, x0, x1, x2, _⟩ := (HRM3.out.ext HBp.out).vis i hlt
            have HXm := Lib.hid (show vat M i ∈ M by rw [vat_get hlt]; exact List.getElem_mem hlt)
            have hir : (i : Int) < (M.length : Int) := by omega
            obtain ⟨X, hX⟩ : ∃ X, vat M i = X := ⟨_, rfl⟩
            rw [hX] at HXm x0 x1 x2
            clear hX
            go_wp2_with fail
            go_loopw [10, 11] (fun v10 v11 wr => inI R X wp v10 v11 wr) (fun _ v11 _ => R.length - (intOf v11).toNat)
            case atStart => exact ⟨0, Nat.zero_le _, rfl, by simp, Below.refl _ _⟩
            case round =>
              obtain ⟨wq, rfl⟩ : ∃ wq : World, wq = wr := ⟨_, rfl⟩
              obtain ⟨k, hk, rfl, rfl, hBq⟩ := hrel
              have HBq := Lib.hid hBq
              have hzq := hBq.size
              have hkb : k ≤ 60 := by have := HRb.out; omega
              clear hBq
              by_cases hkl : k < R.length
              · have hkr : (k : Int) < (R.length : Int) := by omega
                have hTk : R.take (k + 1) = R.take k ++ [R[k]] := take_snoc hkl
                by_cases hin : X ∈ R.take k
                · have HT := Lib.hid (show decide (X ∈ R.take (k + 1)) = true from decide_eq_true (by rw [hTk]; exact List.mem_append_left _ hin))
                  have hd : decide (X ∈ R.take k) = true := decide_eq_true hin
                  rw [hd]
                  clear hd hin hTk
                  go_wp2_with fail
                  go_quiet (fail)
                  go_wp2_with fail
                  go_roundw
                  case rel => exact ⟨k + 1, by omega, by go_num, by rw [HT.out], HBq.out.trans ((ext_drewN wq _).mono hzq)⟩
                  case measure => simp [intOf]; omega
                · obtain ⟨b2, off2, rfl, _, hbl2, y0, y1, y2, _⟩ := (HR3.out.ext (HBp.out.trans (HBq.out.mono hzp))).vis k hkl
                  have hvk : vat R k = R[k] := vat_get hkl
                  have z0 := ((bcell HBq.out).1 b _ hbl).trans x0
                  have z1 := ((bcell HBq.out).1 b _ hbl).trans x1
                  have z2 := ((bcell HBq.out).1 b _ hbl).trans x2
                  have heq := fun W => eql_visit (vat R k) X W
                  rw [← hvk] at hTk
                  have HTk := Lib.hid (show decide (X ∈ R.take (k + 1)) = decide (vat R k = X) by
                    rw [hTk, Bool.eq_iff_iff]
                    simp only [decide_eq_true_eq, List.mem_append, List.mem_singleton]
                    constructor
                    · rintro (h | h)
                      · exact absurd h hin
                      · exact h.symm
                    · intro h; exact .inr h.symm)
                  have hd : decide (X ∈ R.take k) = false := decide_eq_false hin
                  rw [hd]
                  clear hd hin hTk hvk
                  generalize vat R k = Y at *
                  generalize hdd : decide (Y = X) = dd at heq HTk
                  obtain ⟨X0, X1, X2⟩ := X
                  obtain ⟨Y0, Y1, Y2⟩ := Y
                  simp only [visCs] at heq
                  simp only at z0 z1 z2 y0 y1 y2
                  clear hdd x0 x1 x2
                  go_wp2_with fail
                  go_quiet (fail)
                  go_wp2_with fail
                  go_roundw
                  case rel => exact ⟨k + 1, by omega, by go_num, by rw [HTk.out], HBq.out.trans ((ext_drewN wq _).mono hzq)⟩
                  case measure => simp [intOf]; omega
              · obtain rfl : k = R.length := by omega
                rw [List.take_length]
                have hpq : Below wp.heap.size wp wq := HBq.out
                by_cases hin : X ∈ R
                · have hd : decide (X ∈ R) = true := decide_eq_true hin
                  rw [hd]
                  clear hd hin
                  go_wp2_with fail
                  go_loopw [12] (fun v12 wr => noneJ R.length wq v12 wr) (fun v12 _ => R.length - (intOf v12).toNat)
                  case atStart => exact ⟨0, Nat.zero_le _, rfl, Below.refl _ _⟩
                  case round =>
                    obtain ⟨wt, rfl⟩ : ∃ wt : World, wt = wr := ⟨_, rfl⟩
                    obtain ⟨k, hk, rfl, hBt⟩ := hrel
                    have HBt := Lib.hid hBt
                    have hzt := hBt.size
                    have hkb : k ≤ 60 := by have := HRb.out; omega
                    clear hBt
                    by_cases hkl : k < R.length
                    · have hkr : (k : Int) < (R.length : Int) := by omega
                      go_wp2_with fail
                      go_quiet (fail)
                      go_wp2_with fail
                      go_roundw
                      case rel => exact ⟨k + 1, by omega, by go_num, HBt.out.trans ((ext_drewN wt _).mono hzt)⟩
                      case measure => simp [intOf]; omega
                    · obtain rfl : k = R.length := by omega
                      go_wp2_with fail
                      go_roundw
                      case rel => exact ⟨i + 1, by omega, by go_num, HBp.out.trans ((HBq.out.trans (HBt.out.mono hzq)).mono hzp)⟩
                      case measure => simp [intOf]; omega
                · have hd : decide (X ∈ R) = false := decide_eq_false hin
                  rw [hd]
                  have HNo := Lib.hid (HNb.out X HXm.out hin)
                  have hbq : b < wq.heap.size := by omega
                  have q0 := ((bcell HBq.out).1 b _ hbl).trans x0
                  have q1 := ((bcell HBq.out).1 b _ hbl).trans x1
                  have q2 := ((bcell HBq.out).1 b _ hbl).trans x2
                  clear hd hin x0 x1 x2
                  go_wp2_with fail
                  go_loopw [12] (fun v12 wr => noneJ R.length wq v12 wr) (fun v12 _ => R.length - (intOf v12).toNat)
                  case atStart => exact ⟨0, Nat.zero_le _, rfl, Below.refl _ _⟩
                  case round =>
                    obtain ⟨wt, rfl⟩ : ∃ wt : World, wt = wr := ⟨_, rfl⟩
                    obtain ⟨k, hk, rfl, hBt⟩ := hrel
                    have HBt := Lib.hid hBt
                    have hzt := hBt.size
                    have hkb : k ≤ 60 := by have := HRb.out; omega
                    clear hBt
                    by_cases hkl : k < R.length
                    · have hkr : (k : Int) < (R.length : Int) := by omega
                      obtain ⟨b2, off2, rfl, _, hbl2, y0, y1, y2, _⟩ := (HR3.out.ext (HBp.out.trans ((HBq.out.trans (HBt.out.mono hzq)).mono hzp))).vis k hkl
                      have hbt : b < wt.heap.size := by omega
                      have z0 := ((bcell HBt.out).1 b _ hbq).trans q0
                      have z1 := ((bcell HBt.out).1 b _ hbq).trans q1
                      have z2 := ((bcell HBt.out).1 b _ hbq).trans q2
                      have HBe := Lib.hid (show ∀ W, Calls Try.prog 17 #[.agg (visCs X).toArray, .agg (visCs (vat R k)).toArray] W (RetB (.bool false) W) from fun W => by
                        have h := rbetter_any X (vat R k) W
                        rwa [HNo.out (vat R k) (by rw [vat_get hkl]; exact List.getElem_mem hkl)] at h)
                      generalize vat R k = Y at *
                      obtain ⟨X0, X1, X2⟩ := X
                      obtain ⟨Y0, Y1, Y2⟩ := Y
                      simp only [visCs] at HBe
                      simp only at z0 z1 z2 y0 y1 y2
                      have HSk := Lib.hid (show ∀ W, Below wt.heap.size wt W → (W.cell? ⟨b, off + i * 3, none⟩ = some (.int .u32 (X0 : Nat)) ∧ W.cell? ⟨b, off + i * 3 + 1, none⟩ = some (.int .u32 (X1 : Nat)) ∧ W.cell? ⟨b, off + i * 3 + 2, none⟩ = some (.int .u64 (X2 : Nat))) ∧ W.cell? ⟨b2, off2 + k * 3, none⟩ = some (.int .u32 (Y0 : Nat)) ∧ W.cell? ⟨b2, off2 + k * 3 + 1, none⟩ = some (.int .u32 (Y1 : Nat)) ∧ W.cell? ⟨b2, off2 + k * 3 + 2, none⟩ = some (.int .u64 (Y2 : Nat)) from fun W h =>
                        ⟨⟨((bcell h).1 b _ hbt).trans z0, ((bcell h).1 b _ hbt).trans z1, ((bcell h).1 b _ hbt).trans z2⟩, ((bcell h).1 b2 _ hbl2).trans y0, ((bcell h).1 b2 _ hbl2).trans y1, ((bcell h).1 b2 _ hbl2).trans y2⟩)
                      clear q0 q1 q2 z0 z1 z2 y0 y1 y2
                      go_wp2_with fail
                      refine wp_region_held (S := fun w' => (w'.cell? ⟨b, off + i * 3, none⟩ = some (.int .u32 (X0 : Nat)) ∧ w'.cell? ⟨b, off + i * 3 + 1, none⟩ = some (.int .u32 (X1 : Nat)) ∧ w'.cell? ⟨b, off + i * 3 + 2, none⟩ = some (.int .u64 (X2 : Nat))) ∧ w'.cell? ⟨b2, off2 + k * 3, none⟩ = some (.int .u32 (Y0 : Nat)) ∧ w'.cell? ⟨b2, off2 + k * 3 + 1, none⟩ = some (.int .u32 (Y1 : Nat)) ∧ w'.cell? ⟨b2, off2 + k * 3 + 2, none⟩ = some (.int .u64 (Y2 : Nat))) (by kernel_rfl) ?_
                      have hS0 := HSk.out _ (ext_drew wt)
                      change wpAnyH _ _ _ _ _ _ _ _ (World.drew _)
                      refine wpAnyH_take (i := 0) (oi := ⟨some 76, _, _, _, _, _⟩) (v := ?_) rfl (by kernel_rfl) (by kernel_rfl) (by kernel_rfl) (fun _ _ _ h => h) (Or.inl ⟨by rfl, ?_⟩) hS0 ?_
                      rotate_left
                      · (intro w' hSw; obtain ⟨⟨s0, s1, s2⟩, s3, s4, s5⟩ := hSw; go_simp; try (with_reducible rfl))
                      simp only [Act.put, List.setIfInBounds_toArray, List.set_cons_zero, List.set_cons_succ]
                      refine wpAnyH_take (i := 1) (oi := ⟨some 77, _, _, _, _, _⟩) (v := ?_) rfl (by kernel_rfl) (by kernel_rfl) (by kernel_rfl) (fun _ _ _ h => h) (Or.inl ⟨by rfl, ?_⟩) hS0 ?_
                      rotate_left
                      · (intro w' hSw; obtain ⟨⟨s0, s1, s2⟩, s3, s4, s5⟩ := hSw; go_simp; try (with_reducible rfl))
                      simp only [Act.put, List.setIfInBounds_toArray, List.set_cons_zero, List.set_cons_succ]
                      refine wpAnyH_take (i := 2) (oi := ⟨some 78, _, _, _, _, _⟩) (v := ?_) rfl (by kernel_rfl) (by kernel_rfl) (by kernel_rfl) (fun _ _ _ h => h) (Or.inl ⟨by rfl, ?_⟩) hS0 ?_
                      rotate_left
                      · (intro w' hSw; obtain ⟨⟨s0, s1, s2⟩, s3, s4, s5⟩ := hSw; go_simp; try (with_reducible rfl))
                      simp only [Act.put, List.setIfInBounds_toArray, List.set_cons_zero, List.set_cons_succ]
                      refine wpAnyH_take (i := 3) (oi := ⟨some 79, _, _, _, _, _⟩) (v := ?_) rfl (by kernel_rfl) (by kernel_rfl) (by kernel_rfl) (fun _ _ _ h => h) (Or.inl ⟨by rfl, ?_⟩) hS0 ?_
                      rotate_left
                      · (intro w' hSw; obtain ⟨⟨s0, s1, s2⟩, s3, s4, s5⟩ := hSw; go_simp; try (with_reducible rfl))
                      simp only [Act.put, List.setIfInBounds_toArray, List.set_cons_zero, List.set_cons_succ]
                      refine wpAnyH_take (i := 4) (oi := ⟨some 80, _, _, _, _, _⟩) (v := ?_) rfl (by kernel_rfl) (by kernel_rfl) (by kernel_rfl) (fun _ _ _ h => h) (Or.inl ⟨by rfl, ?_⟩) hS0 ?_
                      rotate_left
                      · (intro w' hSw; obtain ⟨⟨s0, s1, s2⟩, s3, s4, s5⟩ := hSw; go_simp; try (with_reducible rfl))
                      simp only [Act.put, List.setIfInBounds_toArray, List.set_cons_zero, List.set_cons_succ]
                      refine wpAnyH_take (i := 5) (oi := ⟨some 81, _, _, _, _, _⟩) (v := ?_) rfl (by kernel_rfl) (by kernel_rfl) (by kernel_rfl) (fun _ _ _ h => h) (Or.inl ⟨by rfl, ?_⟩) hS0 ?_
                      rotate_left
                      · (intro w' hSw; obtain ⟨⟨s0, s1, s2⟩, s3, s4, s5⟩ := hSw; go_simp; try (with_reducible rfl))
                      simp only [Act.put, List.setIfInBounds_toArray, List.set_cons_zero, List.set_cons_succ]
                      refine wpAnyH_take (i := 6) (oi := ⟨some 82, _, _, _, _, _⟩) (v := ?_) rfl (by kernel_rfl) (by kernel_rfl) (by kernel_rfl) (fun _ _ _ h => h) (Or.inl ⟨by rfl, ?_⟩) hS0 ?_
                      rotate_left
                      · (intro w' hSw; obtain ⟨⟨s0, s1, s2⟩, s3, s4, s5⟩ := hSw; go_simp; try (with_reducible rfl))
                      simp only [Act.put, List.setIfInBounds_toArray, List.set_cons_zero, List.set_cons_succ]
                      refine wpAnyH_take (i := 7) (oi := ⟨some 83, _, _, _, _, _⟩) (v := ?_) rfl (by kernel_rfl) (by kernel_rfl) (by kernel_rfl) (fun _ _ _ h => h) (Or.inl ⟨by rfl, ?_⟩) hS0 ?_
                      rotate_left
                      · (intro w' hSw; obtain ⟨⟨s0, s1, s2⟩, s3, s4, s5⟩ := hSw; go_simp; try (with_reducible rfl))
                      simp only [Act.put, List.setIfInBounds_toArray, List.set_cons_zero, List.set_cons_succ]
                      refine wpAnyH_take (i := 8) (oi := ⟨some 84, _, _, _, _, _⟩) (v := ?_) rfl (by kernel_rfl) (by kernel_rfl) (by kernel_rfl) (fun _ _ _ h => h) (Or.inl ⟨by rfl, ?_⟩) hS0 ?_
                      rotate_left
                      · (intro w' hSw; obtain ⟨⟨s0, s1, s2⟩, s3, s4, s5⟩ := hSw; go_simp; try (with_reducible rfl))
                      simp only [Act.put, List.setIfInBounds_toArray, List.set_cons_zero, List.set_cons_succ]
                      refine wpAnyH_take (i := 9) (oi := ⟨some 85, _, _, _, _, _⟩) (v := ?_) rfl (by kernel_rfl) (by kernel_rfl) (by kernel_rfl) (fun _ _ _ h => h) (Or.inl ⟨by rfl, ?_⟩) hS0 ?_
                      rotate_left
                      · (intro w' hSw; obtain ⟨⟨s0, s1, s2⟩, s3, s4, s5⟩ := hSw; go_simp; try (with_reducible rfl))
                      simp only [Act.put, List.setIfInBounds_toArray, List.set_cons_zero, List.set_cons_succ]
                      refine wpAnyH_take (i := 10) (oi := ⟨some 86, _, _, _, _, _⟩) (v := ?_) rfl (by kernel_rfl) (by kernel_rfl) (by kernel_rfl) (fun _ _ _ h => h) (Or.inl ⟨by rfl, ?_⟩) hS0 ?_
                      rotate_left
                      · (intro w' hSw; obtain ⟨⟨s0, s1, s2⟩, s3, s4, s5⟩ := hSw; go_simp; try (with_reducible rfl))
                      simp only [Act.put, List.setIfInBounds_toArray, List.set_cons_zero, List.set_cons_succ]
                      refine wpAnyH_all (rs := [11]) (by kernel_rfl) (by simp) ?_
                      intro i hi
                      rw [List.mem_singleton] at hi
                      subst hi
                      refine wpOp_runG (o := ⟨some 87, _, _, _, _, _⟩) rfl rfl fun K' hK => ?_
                      go_simp
                      refine (HBe.out _).mono ?_
                      rintro e wu ⟨rfl, hBu⟩
                      have hBd : Below wt.heap.size wt wu := (ext_drew wt).trans hBu
                      have hS1 := HSk.out _ hBd
                      have HBd := Lib.hid hBd
                      clear hBu hS0 hBd
                      have hS0 := hS1
                      clear hS1
                      refine hK _ _ ⟨hS0, ?_⟩
                      clear hK K'
                      try simp only [Act.put, List.setIfInBounds_toArray, List.set_cons_zero, List.set_cons_succ]
                      refine wpAnyH_take (i := 12) (oi := ⟨some 88, _, _, _, _, _⟩) (v := ?_) rfl (by kernel_rfl) (by kernel_rfl) (by kernel_rfl) (fun _ _ _ h => h) (Or.inl ⟨by rfl, ?_⟩) hS0 ?_
                      rotate_left
                      · (intro w' hSw; obtain ⟨⟨s0, s1, s2⟩, s3, s4, s5⟩ := hSw; go_simp; try (with_reducible rfl))
                      simp only [Act.put, List.setIfInBounds_toArray, List.set_cons_zero, List.set_cons_succ]
                      refine wpAnyH_done (by kernel_rfl) ?_ _
                      go_wp2_with fail
                      go_roundw
                      case rel => exact ⟨k + 1, by omega, by go_num, HBt.out.trans (HBd.out.mono hzt)⟩
                      case measure => simp [intOf]; omega
                    · obtain rfl : k = R.length := by omega
                      go_wp2_with fail
                      go_roundw
                      case rel => exact ⟨i + 1, by omega, by go_num, HBp.out.trans ((HBq.out.trans (HBt.out.mono hzq)).mono hzp)⟩
                      case measure => simp [intOf]; omega
          · obtain rfl : i = M.length := by omega
            have HP := Lib.hid (fun W => tput_nil (0, 0, 1) W)
            simp only [visCs] at HP
            have HLn := Lib.hid (fun W => tlen_nil W)
            have HRw := Lib.hid (fun W => trows_nil W)
            have g7 : ((R.length : Int) == max 0 (min most (M.length : Int))) = true := by
              rw [beq_iff_eq, HRl.out]; omega
            go_wp2_with (first
              | (go_at_call 10; refine (HP.out _).mono ?_; rintro e w4 ⟨rfl, hB4⟩; have HB4 := Lib.hid hB4; clear hB4)
              | (go_at_call 12; refine (HLn.out _).mono ?_; rintro e w5 ⟨rfl, rfl⟩)
              | (go_at_call 14; refine (HRw.out _).mono ?_; rintro e w6 ⟨rfl, rfl⟩)
              | (go_at_call 7; refine (HA.out _).mono ?_; rintro e wA ⟨rfl, hBA⟩; have HBA := Lib.hid hBA; clear hBA))
            go_ret
            exact ⟨rfl, HB3.out.trans ((HBp.out.trans ((HB4.out.trans (HBA.out.mono HB4.out.size)).mono hzp)).mono hz3)⟩
  · have g1 : decide (60 < (L.length : Int)) = true := decide_eq_true (by omega)
    have g1' : decide (60 < L.length) = true := decide_eq_true (by omega)
    clear hrd
    go_enter Try.func6, Try.ntmps6
    go_wp2_with (go_at_call 7; refine (HA.out _).mono ?_; rintro e wA ⟨rfl, hBA⟩; have HBA := Lib.hid hBA; clear hBA)
    go_ret
    exact ⟨rfl, HBA.out⟩
end Go.Proofs.Ytggcmnjllkncaaa
