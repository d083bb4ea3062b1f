/- palmerref16.Build exactly, the walk. -/
import Derived.Test.YtcklfffeimnfeaaGreatRefBuildW
set_option maxRecDepth 100000
set_option maxHeartbeats 12800000
set_option linter.unusedSimpArgs false
set_option linter.unusedVariables false
namespace Go.Proofs.YtcklfffeimnfeaaGreat
open Go.RowKit

theorem sumA_leX {l : List ArcD} (h : ∀ k (hk : k < l.length), okA l[k]) : ∀ k, k ≤ l.length → sumA (l.take k) ≤ k * 4294967296
  | 0, _ => by simp [sumA]
  | k + 1, hk => by
    have h1 := sumA_leX h k (by omega)
    have h2 := h k (by omega)
    rw [sumA_take l k (by omega)]
    have := h2.2
    omega
theorem buildX_any (l : List ArcD) (ao : Option Addr) (cap : Nat) (fp : Nat → Prop) (w : World) (hl : l.length ≤ 100000) (hrd : RdS arcRep fp w ao l) :
    Calls Tryz.prog 24 #[.slice ao l.length cap] w (BuildX (buildT (l.map (·.2))) w) := by
  have hE4 := u64Elem
  have hE5 := cellElem
  have HS := Lib.hid (fun W (h : Below w.heap.size w W) => rsum_any l ao cap fp W (by omega) (hrd.ext h))
  have Hrd := Lib.hid hrd
  have hokl : ∀ k (hk : k < l.length), okA l[k] := fun k hk => by obtain ⟨_, _, _, _, _, _, h⟩ := hrd.arc k hk; exact h
  obtain ⟨W, hW⟩ : ∃ W, l.map (·.2) = W := ⟨_, rfl⟩
  have hWl : W.length = l.length := by rw [← hW, List.length_map]
  have hq : ∃ q : Nat, q = sumA l ∧ q < 18446744073709551616 ∧ W.sum = q := ⟨sumA l, rfl, by
    have h := sumA_leX hokl l.length (Nat.le_refl _)
    rw [List.take_length] at h
    omega, by rw [← hW]; rfl⟩
  obtain ⟨q, hq, hq64, hWq⟩ := hq
  have HW := Lib.hid (show ∀ k (hk : k < l.length) (hk2 : k < W.length), W[k] = l[k].2 from fun k hk hk2 => by subst hW; simp)
  rw [← hq] at HS
  rw [hW]
  have HWl := Lib.hid hWl
  have HWq := Lib.hid hWq
  clear hrd hq hokl hW hWl hWq
  go_enter Tryz.func24, Tryz.ntmps24
  go_wp2_with (go_at_call 56; (with_reducible refine (HS.out _ (Below.refl _ _)).mono ?_); rintro e w1 ⟨rfl, hB⟩; have B1 := Lib.hid hB; clear hB)
  go_loopw [4, 5, 18] (fun v4 v5 i wr => BX1 W w v4 v5 i wr) (fun _ _ i _ => l.length - (intOf i).toNat)
  case atStart => exact ⟨0, by omega, rfl, BX.start W.length B1.out⟩
  case round =>
    obtain ⟨k, hk, rfl, hI⟩ := hrel
    rw [HWl.out] at hk
    rename World => wo
    by_cases hlt : k < l.length
    · rw [HWl.out] at hI
      obtain ⟨a4, a5, c4, c5, g4, g5, rfl, rfl, hL, hT, h64, hc, h4, h5, hg4, hg5, hB⟩ := hI
      obtain ⟨bb, off, rfl, hbb, hc0', hc1', hok⟩ := Hrd.out.arc k hlt
      have hc1 := ((bcell hB).1 _ _ hbb).trans hc1'
      have hir : (k : Int) < (l.length : Int) := by omega
      have H4 := Lib.hid h4
      have H5 := Lib.hid h5
      have Hp := Lib.hid (And.intro hL (And.intro hT (And.intro h64 (And.intro hc (And.intro hg4 (And.intro hg5 (And.intro hB h5.lt)))))))
      have HWk := Lib.hid (HW.out k hlt (by rw [HWl.out]; exact hlt))
      clear h4 h5 hc0' hc1' hL hT h64 hc hg4 hg5 hB
      generalize l[k] = x at hc1 hok HWk
      obtain ⟨x0, x1⟩ := x
      simp only at hc1 HWk
      have hx1 : x1 < 4294967296 := hok.2
      clear hok
      go_wp2_with (first
        | (refine wpList_app rfl (.tmp 21) (.tmp 32) 106 106 rfl hE4 (H4.out.alloc _) rfl rfl (srcManyC Tryz.underlying106 _ _ _ _ 1 _ (by simp) rfl (by simp [Value.oneCell'])) (by simp [maxLen]; omega) (by omega) ?_; intro a4' c4' g4' w3 ho4 hg4' hon4; have Ho4 := Lib.hid ho4; have Hg4 := Lib.hid hg4'; have Hon4 := Lib.hid hon4; clear ho4 hg4' hon4)
        | (refine wpList_app rfl (.tmp 34) (.tmp 39) 61 61 rfl hE5 (((H5.out.alloc _).only Hon4.out (fun b hb h => (Hp.out.2.2.2.2.1 b h).2 hb)).alloc _) rfl rfl (srcManyC Tryz.underlying61 _ _ _ _ 2 _ (by simp) rfl (by simp [Value.oneCell'])) (by simp [maxLen]; omega) (by omega) ?_; intro a5' c5' g5' w4 ho5 hg5' hon5; have Ho5 := Lib.hid ho5; have Hg5 := Lib.hid hg5'; have Hon5 := Lib.hid hon5; clear ho5 hg5' hon5)
        | fail "no arm")
      obtain ⟨hL, hT, h64, hc, hg4, hg5, hB, h5n⟩ := Hp.out
      have hkW : k < W.length := by rw [HWl.out]; exact hlt
      have hpr : l.length * x1 < 18446744073709551616 := by
        have h1 : l.length * x1 ≤ 100000 * 4294967296 := Nat.mul_le_mul hl (by omega)
        omega
      have hr : IntKind.u64.wrap ((l.length : Int) * (x1 : Int)) = ((l.length * x1 : Nat) : Int) := by
        have e : (l.length : Int) * (x1 : Int) = ((l.length * x1 : Nat) : Int) := by simp
        rw [e]
        simp only [IntKind.wrap, IntKind.bits, IntKind.signed]
        simp
        omega
      refine ⟨⟨k + 1, by omega, by go_num, ?_⟩, by simp [intOf]; omega⟩
      rw [bL_succ hkW, bT_succ, HWk.out, HWq.out, HWl.out]
      exact BX.more (l.length * x1) q hL hT h64 hc hg4 hg5 hB H5.out h5n Ho4.out Hg4.out Hon4.out Ho5.out Hg5.out Hon5.out hr hpr rfl hlt (by omega) hq64
    · obtain rfl : k = l.length := by omega
      have HI := Lib.hid hI
      clear hI
      go_wp2_with fail
      go_loopw [7] (fun i wr => BX2 W w u4 u5 i wr) (fun i _ => l.length + 1 - (intOf i).toNat)
      case atStart =>
        refine ⟨0, bstart W, by omega, rfl, rfl, ?_⟩
        rw [← bst_all]
        have h := HI.out
        rw [← HWl.out] at h
        exact h
      case round =>
        obtain ⟨k, s, hk, rfl, hrun, hI⟩ := hrel
        rename World => wp
        obtain ⟨L, T⟩ := s
        simp only at hI
        have HR := Lib.hid (fun (h : T = buildT W) => (show BuildX (buildT W) w (.returned u5) wp from h ▸ hI.ret))
        rw [HWl.out, HWq.out] at hrun
        rw [HWl.out] at hI hk
        have Hrun := Lib.hid hrun
        clear hrun
        by_cases hlt : k ≤ l.length
        · have hle : decide ((k : Int) ≤ (l.length : Int)) = true := decide_eq_true (by omega)
          have hle' : decide (k ≤ l.length) = true := decide_eq_true hlt
          obtain ⟨a4, a5, c4, c5, g4, g5, rfl, rfl, hL, hT, h64, hc, h4, h5, hg4, hg5, hB⟩ := hI
          have hbB := hB.size
          have HF := Lib.hid (fun b (W : World) (h : Below wp.heap.size wp W) => first16x_any L q b a4 c4 W (by omega) (by rw [hL]; exact (h4.ext h).rd))
          rw [hL] at HF
          have H4 := Lib.hid h4
          have H5 := Lib.hid h5
          have Hp := Lib.hid (And.intro hL (And.intro hT (And.intro h64 (And.intro hc (And.intro hg4 (And.intro hg5 hB))))))
          clear h4 h5 hL hT h64 hc hg4 hg5 hB
          have HN := Lib.hid (show lowI L q = none ∨ highI L q = none → T = buildT W from fun h => by
            have h1 := Hrun.out
            rw [brun_none (bnext_no h)] at h1
            exact h1)
          have hF1 : firstN L q false = lowI L q := rfl
          have hF2 : firstN L q true = highI L q := rfl
          cases hlo : lowI L q with
          | none =>
            have HR3 := Lib.hid (fun (w3 : World) (B : Below wp.heap.size wp w3) => (HR.out (HN.out (.inl hlo))).ext B)
            have hv1 : firstV (firstN L q false) = .tuple #[.int .i64 ((0 : Nat) : Int), .bool false] := by rw [hF1, hlo]; rfl
            cases hhi : highI L q with
            | none =>
              have hv2 : firstV (firstN L q true) = .tuple #[.int .i64 ((0 : Nat) : Int), .bool false] := by rw [hF2, hhi]; rfl
              have HF' := Lib.hid (fun W h => hv1 ▸ HF.out false W h)
              have HG' := Lib.hid (fun W h => hv2 ▸ HF.out true W h)
              clear hF1 hF2 hv1 hv2 HF hlo hhi HN HR
              go_upto_region 15 with (first
            | (go_at_call 57; (with_reducible refine (HF'.out _ (Below.refl _ _)).mono ?_); rintro e w2 ⟨rfl, hB2⟩; have B2 := Lib.hid hB2; clear hB2)
            | (go_at_call 57; (with_reducible refine (HG'.out _ B2.out).mono ?_); rintro e w3 ⟨rfl, hB3⟩; have B3 := Lib.hid (B2.out.trans (hB3.mono B2.out.size)); clear hB3)
            | fail "no arm")
              go_wp2_with fail
              go_ret
              exact HR3.out _ B3.out
            | some i2 =>
              have hv2 : firstV (firstN L q true) = .tuple #[.int .i64 (i2 : Nat), .bool true] := by rw [hF2, hhi]; rfl
              have HF' := Lib.hid (fun W h => hv1 ▸ HF.out false W h)
              have HG' := Lib.hid (fun W h => hv2 ▸ HF.out true W h)
              clear hF1 hF2 hv1 hv2 HF hlo hhi HN HR
              go_upto_region 15 with (first
            | (go_at_call 57; (with_reducible refine (HF'.out _ (Below.refl _ _)).mono ?_); rintro e w2 ⟨rfl, hB2⟩; have B2 := Lib.hid hB2; clear hB2)
            | (go_at_call 57; (with_reducible refine (HG'.out _ B2.out).mono ?_); rintro e w3 ⟨rfl, hB3⟩; have B3 := Lib.hid (B2.out.trans (hB3.mono B2.out.size)); clear hB3)
            | fail "no arm")
              go_wp2_with fail
              go_ret
              exact HR3.out _ B3.out
          | some i1 =>
            have hv1 : firstV (firstN L q false) = .tuple #[.int .i64 (i1 : Nat), .bool true] := by rw [hF1, hlo]; rfl
            cases hhi : highI L q with
            | none =>
              have HR3 := Lib.hid (fun (w3 : World) (B : Below wp.heap.size wp w3) => (HR.out (HN.out (.inr hhi))).ext B)
              have hv2 : firstV (firstN L q true) = .tuple #[.int .i64 ((0 : Nat) : Int), .bool false] := by rw [hF2, hhi]; rfl
              have HF' := Lib.hid (fun W h => hv1 ▸ HF.out false W h)
              have HG' := Lib.hid (fun W h => hv2 ▸ HF.out true W h)
              clear hF1 hF2 hv1 hv2 HF hlo hhi HN HR
              go_upto_region 15 with (first
            | (go_at_call 57; (with_reducible refine (HF'.out _ (Below.refl _ _)).mono ?_); rintro e w2 ⟨rfl, hB2⟩; have B2 := Lib.hid hB2; clear hB2)
            | (go_at_call 57; (with_reducible refine (HG'.out _ B2.out).mono ?_); rintro e w3 ⟨rfl, hB3⟩; have B3 := Lib.hid (B2.out.trans (hB3.mono B2.out.size)); clear hB3)
            | fail "no arm")
              go_wp2_with fail
              go_ret
              exact HR3.out _ B3.out
            | some i2 =>
              have hv2 : firstV (firstN L q true) = .tuple #[.int .i64 (i2 : Nat), .bool true] := by rw [hF2, hhi]; rfl
              have HF' := Lib.hid (fun W h => hv1 ▸ HF.out false W h)
              have HG' := Lib.hid (fun W h => hv2 ▸ HF.out true W h)
              clear hF1 hF2 hv1 hv2 HF HN HR
              obtain ⟨h1, hlo1, _⟩ := lowI_some.1 hlo
              obtain ⟨h2, hhi1, _⟩ := highI_some.1 hhi
              have hstep := congrArg Prod.snd (brun_step (f := l.length - k) (s := (L, T)) (q := q) hlo hhi)
              rw [show l.length - k + 1 = l.length + 1 - k by omega, Hrun.out] at hstep
              have Hstep := Lib.hid hstep
              clear hstep
              go_upto_region 15 with (first
            | (go_at_call 57; (with_reducible refine (HF'.out _ (Below.refl _ _)).mono ?_); rintro e w2 ⟨rfl, hB2⟩; have B2 := Lib.hid hB2; clear hB2)
            | (go_at_call 57; (with_reducible refine (HG'.out _ B2.out).mono ?_); rintro e w3 ⟨rfl, hB3⟩; have B3 := Lib.hid (B2.out.trans (hB3.mono B2.out.size)); clear hB3)
            | fail "no arm")
              obtain ⟨hL, hT, h64, hc, hg4, hg5, hB⟩ := Hp.out
              rw [hL] at h1 h2
              obtain ⟨b4, rfl, rfl, hb4⟩ := H4.out.pos (by omega)
              obtain ⟨b5, rfl, rfl, hb5⟩ := H5.out.pos (by omega)
              have h4 := H4.out.ext B3.out
              have h5 := H5.out.ext B3.out
              have hne : b4 ≠ b5 := fun e => (hg4 b4 rfl).2 (by rw [e])
              have hl4 : w.heap.size ≤ b4 := (hg4 b4 rfl).1
              have hl5 : w.heap.size ≤ b5 := hg5 b5 rfl
              have hBn := hB.trans (B3.out.mono hbB)
              have hth : w3.there b5 (i1 * 2) 2 := fun j hj => ⟨by rw [h5.cell _ (by omega)]; simp [h5.len]; omega, h5.frozen _⟩
              have ha : w3.cell? ⟨b4, i1, none⟩ = some (.int .u64 (L[i1] : Nat)) := by rw [h4.cell _ (by omega)]; simp [u64v, hL, h1]
              obtain ⟨w4, hw4⟩ : ∃ w4, (w3.setCell ⟨b5, i1 * 2, none⟩ (.int .u64 (L[i1] : Nat))).setCell ⟨b5, i1 * 2 + 1, none⟩ (.int .u32 (i2 : Nat)) = w4 := ⟨_, rfl⟩
              have h4w : Own w4 (some ⟨b4, 0, none⟩) c4 (some b4) 23 1 l.length (u64v L) := by
                rw [← hw4]
                exact (h4.setCell (p := ⟨b5, i1 * 2, none⟩) (fun b hb => by cases hb; exact hne) _).setCell (p := ⟨b5, i1 * 2 + 1, none⟩) (fun b hb => by cases hb; exact hne) _
              have hi1 : w4.cell? ⟨b4, i1, none⟩ = some (.int .u64 (L[i1] : Nat)) := by rw [h4w.cell _ (by omega)]; simp [u64v, hL, h1]
              have hi2 : w4.cell? ⟨b4, i2, none⟩ = some (.int .u64 (L[i2] : Nat)) := by rw [h4w.cell _ (by omega)]; simp [u64v, hL, h2]
              have f1 := h4w.frozen i1
              have f2 := h4w.frozen i2
              have hx2 : L[i2] < 18446744073709551616 := h64 _ (List.getElem_mem _)
              have HT := Lib.hid (show BX2 W w (.slice (some ⟨b4, 0, none⟩) l.length c4) (.slice (some ⟨b5, 0, none⟩) l.length c5) (.int .i64 ((k + 1 : Nat) : Int)) ((w4.drew.setCell ⟨b4, i2, none⟩ (.int .u64 ((L[i2] - (q - L[i1]) : Nat) : Int))).setCell ⟨b4, i1, none⟩ (.int .u64 (q : Nat))) from by
                refine ⟨k + 1, bturn q (L, T) i1 i2, by rw [HWl.out]; omega, rfl, ?_, ?_⟩
                · rw [HWl.out, HWq.out, show l.length + 1 - (k + 1) = l.length - k by omega, ← Hstep.out]
                · rw [← hw4, HWl.out]
                  have h := BX.turn (r := q) (L[i2] - (q - L[i1])) hL hT h64 hc hBn h4 h5 hne hl4 hl5 h1 h2 (by omega) hq64 (by omega)
                  unfold bturn
                  simp only [gN_get (show i1 < L.length by omega), gN_get (show i2 < L.length by omega)]
                  exact h)
              have Hth := Lib.hid hth
              have Hw4 := Lib.hid hw4
              have hir1 : (i1 : Int) < (l.length : Int) := by omega
              have hir2 : (i2 : Int) < (l.length : Int) := by omega
              clear hth hw4 Hrun Hstep hlo hhi
              have hij : ¬ i1 = i2 := fun e => by subst e; omega
              generalize L[i1] = x1 at ha hi1 HT Hw4 hlo1
              generalize L[i2] = x2 at hi2 HT hhi1 hx2
              clear h4w h4 h5 hL hT h64 hc hg4 hg5 hB hBn hb4 hb5 hl4 hl5 H4 H5 Hp HF' HG' HI HS
              have HZ := Lib.hid (show ∀ (z : Int), IntKind.u64.wrap z = ((x2 - (q - x1) : Nat) : Int) → BX2 W w (.slice (some ⟨b4, 0, none⟩) l.length c4) (.slice (some ⟨b5, 0, none⟩) l.length c5) (.int .i64 ((k + 1 : Nat) : Int)) ((w4.drew.setCell ⟨b4, i2, none⟩ (.int .u64 (IntKind.u64.wrap z))).setCell ⟨b4, i1, none⟩ (.int .u64 (q : Nat))) from
                fun z hz => by rw [hz]; exact HT.out)
              clear HT
              have hij' : ¬ i2 = i1 := fun e => hij e.symm
              have Hhx := Lib.hid (And.intro hlo1 (And.intro hhi1 hx2))
              clear hlo1 hhi1 hx2
              go_upto_region 17 with (first
                | (refine wpList_store_mid rfl _ _ _ rfl b5 (i1 * 2) _ rfl rfl Hth.out (by kernel_rfl) (by simp [Value.oneCell']) ?_; change wpList _ _ _ _ _ (World.setCell (World.setCell w3 ⟨b5, i1 * 2, none⟩ _) ⟨b5, i1 * 2 + 1, none⟩ _); rw [Hw4.out])
                | fail "no arm")
              go_region
              all_goals go_wp2_with fail
              all_goals go_roundw
              all_goals first
                | (have h3 := Hhx.out; have hz := HZ.out ((x2 : Int) - IntKind.u64.wrap ((q : Int) - (x1 : Int))) (by rw [IntWalk.u64_in ((q : Int) - (x1 : Int)) (by omega), IntWalk.u64_in _ (by omega)]; omega); rw [show ((k + 1 : Nat) : Int) = (k : Int) + 1 by simp] at hz; exact hz)
                | (simp [intOf]; omega)
        · have hle : decide ((k : Int) ≤ (l.length : Int)) = false := decide_eq_false (by omega)
          have hle' : decide (k ≤ l.length) = false := decide_eq_false hlt
          have hT : T = buildT W := by
            have h1 := Hrun.out
            rw [show l.length + 1 - k = 0 by omega] at h1
            exact h1
          have HR3 := Lib.hid (HR.out hT)
          obtain ⟨a4, a5, c4, c5, g4, g5, rfl, rfl, hI⟩ := hI
          clear hI
          go_wp2_with fail
          go_ret
          exact HR3.out
end Go.Proofs.YtcklfffeimnfeaaGreat
