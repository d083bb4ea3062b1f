/- palmerref16.Build, the walk. -/
import Derived.Test.YtlgnpogmgpgdaaaBuildW
namespace Go.Proofs.Ytlgnpogmgpgdaaa
set_option linter.unusedSimpArgs false
set_option linter.unusedVariables false
set_option maxRecDepth 100000
open Go.RowKit

theorem sumA_le {l : List ArcD} (h : ∀ k (hk : k < l.length), okA l[k]) : ∀ k, k ≤ l.length → sumA (l.take k) ≤ k * 4294967296
  | 0, _ => by simp [sumA]
  | k + 1, hk => by
    have h1 := sumA_le h k (by omega)
    have h2 := h k (by omega)
    rw [sumA_take l k (by omega)]
    have := h2.2
    omega
set_option maxHeartbeats 3200000 in
set_option maxRecDepth 100000 in
theorem build_any (l : List ArcD) (ao : Option Addr) (cap : Nat) (fp : Nat → Prop) (w : World) (hl : l.length ≤ 100000) (hrd : RdS arcRep fp w ao l) :
    Calls Try.prog 17 #[.slice ao l.length cap] w (BuildRet l.length w) := by
  have hE4 := u64Elem
  have hE5 := cellElem
  have HS := Lib.hid (fun W (h : Below w.heap.size w W) => rsum_any l ao cap fp W (by omega) (hrd.ext h))
  have Hrd := Lib.hid hrd
  have hq : ∃ q : Nat, q = sumA l ∧ q < 18446744073709551616 := ⟨sumA l, rfl, by
    have h := sumA_le (fun k hk => by obtain ⟨_, _, _, _, _, _, h⟩ := hrd.arc k hk; exact h) l.length (Nat.le_refl _)
    rw [List.take_length] at h
    omega⟩
  obtain ⟨q, hq, hq64⟩ := hq
  rw [← hq] at HS
  clear hrd hq
  go_enter Try.func17, Try.ntmps17
  go_wp2_with (go_at_call 56; (with_reducible refine (HS.out _ (Below.refl _ _)).mono ?_); rintro e w1 ⟨rfl, hB⟩; have B1 := Lib.hid hB; clear hB)
  go_loopw [4, 5, 18] (fun v4 v5 i wr => BI1 l.length w v4 v5 i wr) (fun _ _ i _ => l.length - (intOf i).toNat)
  case atStart => exact ⟨0, by omega, rfl, BI.start l.length B1.out⟩
  case round =>
    obtain ⟨k, hk, rfl, hI⟩ := hrel
    rename World => wo
    by_cases hlt : k < l.length
    · obtain ⟨L, T, a4, a5, c4, c5, g4, g5, rfl, rfl, hL, hT, h64, hc, h4, h5, hg4, hg5, hB⟩ := hI
      obtain ⟨bb, off, rfl, hbb, hc0', hc1', hok⟩ := Hrd.out.arc k hlt
      have hc1 := ((bcell hB).1 _ _ hbb).trans hc1'
      have hir : (k : Int) < (l.length : Int) := by omega
      have H4 := Lib.hid h4
      have H5 := Lib.hid h5
      have Hp := Lib.hid (And.intro hL (And.intro hT (And.intro h64 (And.intro hc (And.intro hg4 (And.intro hg5 (And.intro hB h5.lt)))))))
      clear h4 h5 hc0' hc1' hL hT h64 hc hg4 hg5 hB
      generalize l[k] = x at hc1 hok
      obtain ⟨x0, x1⟩ := x
      simp only at hc1
      have hx1 : x1 < 4294967296 := hok.2
      clear hok
      go_wp2_with (first
        | (refine wpList_app rfl (.tmp 21) (.tmp 32) 103 103 rfl hE4 (H4.out.alloc _) rfl rfl (srcManyC Try.underlying103 _ _ _ _ 1 _ (by simp) rfl (by simp [Value.oneCell'])) (by simp [maxLen]; omega) (by omega) ?_; intro a4' c4' g4' w3 ho4 hg4' hon4; have Ho4 := Lib.hid ho4; have Hg4 := Lib.hid hg4'; have Hon4 := Lib.hid hon4; clear ho4 hg4' hon4)
        | (refine wpList_app rfl (.tmp 34) (.tmp 39) 32 32 rfl hE5 (((H5.out.alloc _).only Hon4.out (fun b hb h => (Hp.out.2.2.2.2.1 b h).2 hb)).alloc _) rfl rfl (srcManyC Try.underlying32 _ _ _ _ 2 _ (by simp) rfl (by simp [Value.oneCell'])) (by simp [maxLen]; omega) (by omega) ?_; intro a5' c5' g5' w4 ho5 hg5' hon5; have Ho5 := Lib.hid ho5; have Hg5 := Lib.hid hg5'; have Hon5 := Lib.hid hon5; clear ho5 hg5' hon5)
        | fail "no arm")
      obtain ⟨hL, hT, h64, hc, hg4, hg5, hB, h5n⟩ := Hp.out
      obtain ⟨m, hm, hr⟩ := u64w_nat ((l.length : Int) * (x1 : Int))
      exact ⟨⟨k + 1, by omega, by go_num, BI.more m q hL hT h64 hc hg4 hg5 hB H5.out h5n Ho4.out Hg4.out Hon4.out Ho5.out Hg5.out Hon5.out hr hm rfl hlt (by omega) hq64⟩, by simp [intOf]; omega⟩
    · obtain rfl : k = l.length := by omega
      have HI := Lib.hid hI
      clear hI
      go_wp2_with fail
      go_loopw [7] (fun i wr => BI2 l.length w u4 u5 i wr) (fun i _ => l.length + 1 - (intOf i).toNat)
      case atStart => exact ⟨0, by omega, rfl, HI.out⟩
      case round =>
        obtain ⟨k, hk, rfl, hI⟩ := hrel
        rename World => wp
        have HR := Lib.hid hI.ret
        by_cases hlt : k ≤ l.length
        · have hle : decide ((k : Int) ≤ (l.length : Int)) = true := decide_eq_true (by omega)
          have hle' : decide (k ≤ l.length) = true := decide_eq_true hlt
          obtain ⟨L, T, a4, a5, c4, c5, g4, g5, rfl, rfl, hL, hT, h64, hc, h4, h5, hg4, hg5, hB⟩ := hI
          have hbB := hB.size
          have HF := Lib.hid (fun b (W : World) (h : Below wp.heap.size wp W) => first16_any L q b a4 c4 W (by omega) (by rw [hL]; exact (h4.ext h).rd))
          rw [hL] at HF
          have H4 := Lib.hid h4
          have H5 := Lib.hid h5
          have Hp := Lib.hid (And.intro hL (And.intro hT (And.intro h64 (And.intro hc (And.intro hg4 (And.intro hg5 hB))))))
          clear h4 h5 hL hT h64 hc hg4 hg5 hB
          go_upto_region 15 with (first
            | (go_at_call 57; (with_reducible refine (HF.out false _ (Below.refl _ _)).mono ?_); rintro e w2 ⟨i1, f1, rfl, hf1, hB2⟩; have B2 := Lib.hid hB2; clear hB2)
            | (go_at_call 57; (with_reducible refine (HF.out true _ B2.out).mono ?_); rintro e w3 ⟨i2, f2, rfl, hf2, hB3⟩; have B3 := Lib.hid (B2.out.trans (hB3.mono B2.out.size)); clear hB3)
            | fail "no arm")
          have hno : (f1 = false ∨ f2 = false) ∨ (f1 = true ∧ f2 = true) := by cases f1 <;> cases f2 <;> simp
          rcases hno with hno | ⟨rfl, rfl⟩
          · have HR3 := Lib.hid (HR.out.ext B3.out)
            clear hf1 hf2
            have hx : (f1 = false) ∨ (f1 = true ∧ f2 = false) := by cases f1 <;> cases f2 <;> simp_all
            rcases hx with rfl | ⟨rfl, rfl⟩
            · go_wp2_with fail
              go_ret
              exact HR3.out
            · go_wp2_with fail
              go_ret
              exact HR3.out
          · have h1 := hf1 rfl
            have h2 := hf2 rfl
            obtain ⟨hL, hT, h64, hc, hg4, hg5, hB⟩ := Hp.out
            obtain ⟨b4, rfl, rfl, hb4⟩ := H4.out.pos (by omega)
            obtain ⟨b5, rfl, rfl, hb5⟩ := H5.out.pos (by omega)
            have h4 := H4.out.ext B3.out
            have h5 := H5.out.ext B3.out
            have hne : b4 ≠ b5 := fun e => (hg4 b4 rfl).2 (by rw [e])
            have hl4 : w.heap.size ≤ b4 := (hg4 b4 rfl).1
            have hl5 : w.heap.size ≤ b5 := hg5 b5 rfl
            have hBn := hB.trans (B3.out.mono hbB)
            have hth : w3.there b5 (i1 * 2) 2 := fun j hj => ⟨by rw [h5.cell _ (by omega)]; simp [h5.len]; omega, h5.frozen _⟩
            have ha : w3.cell? ⟨b4, i1, none⟩ = some (.int .u64 (L[i1] : Nat)) := by rw [h4.cell _ (by omega)]; simp [u64v, hL, h1]
            obtain ⟨w4, hw4⟩ : ∃ w4, (w3.setCell ⟨b5, i1 * 2, none⟩ (.int .u64 (L[i1] : Nat))).setCell ⟨b5, i1 * 2 + 1, none⟩ (.int .u32 (i2 : Nat)) = w4 := ⟨_, rfl⟩
            have h4w : Own w4 (some ⟨b4, 0, none⟩) c4 (some b4) 22 1 l.length (u64v L) := by
              rw [← hw4]
              exact (h4.setCell (p := ⟨b5, i1 * 2, none⟩) (fun b hb => by cases hb; exact hne) _).setCell (p := ⟨b5, i1 * 2 + 1, none⟩) (fun b hb => by cases hb; exact hne) _
            have hi1 : w4.cell? ⟨b4, i1, none⟩ = some (.int .u64 (L[i1] : Nat)) := by rw [h4w.cell _ (by omega)]; simp [u64v, hL, h1]
            have hi2 : w4.cell? ⟨b4, i2, none⟩ = some (.int .u64 (L[i2] : Nat)) := by rw [h4w.cell _ (by omega)]; simp [u64v, hL, h2]
            have f1 := h4w.frozen i1
            have f2 := h4w.frozen i2
            have HT := Lib.hid (show ∀ r m : Nat, r < 18446744073709551616 → m < 18446744073709551616 → BI l.length l.length w (.slice (some ⟨b4, 0, none⟩) l.length c4) (.slice (some ⟨b5, 0, none⟩) l.length c5) ((w4.drew.setCell ⟨b4, i2, none⟩ (.int .u64 (m : Nat))).setCell ⟨b4, i1, none⟩ (.int .u64 (r : Nat))) from
              fun r m hr hm => by rw [← hw4]; exact BI.turn (r := r) m hL hT h64 hc hBn h4 h5 hne hl4 hl5 h1 h2 (by omega) hr hm)
            have Hth := Lib.hid hth
            have Hw4 := Lib.hid hw4
            have hir1 : (i1 : Int) < (l.length : Int) := by omega
            have hir2 : (i2 : Int) < (l.length : Int) := by omega
            clear hth hw4
            generalize L[i1] = x1 at ha hi1 HT Hw4
            generalize L[i2] = x2 at hi2
            clear h4w h4 h5 hL hT h64 hc hg4 hg5 hB hBn hb4 hb5 hl4 hl5 H4 H5 Hp HF HI HR HS hf1 hf2
            have HZ := Lib.hid (show ∀ (z : Int), BI l.length l.length w (.slice (some ⟨b4, 0, none⟩) l.length c4) (.slice (some ⟨b5, 0, none⟩) l.length c5) ((w4.drew.setCell ⟨b4, i2, none⟩ (.int .u64 (IntKind.u64.wrap z))).setCell ⟨b4, i1, none⟩ (.int .u64 (q : Nat))) from
              fun z => by obtain ⟨m, hm, e⟩ := u64w_nat z; rw [e]; exact HT.out q m hq64 hm)
            clear HT
            by_cases hij : i1 = i2
            · subst hij
              go_upto_region 17 with (first
                | (refine wpList_store_mid rfl _ _ _ rfl b5 (i1 * 2) _ rfl rfl Hth.out (by kernel_rfl) (by simp [Value.oneCell']) ?_; change wpList _ _ _ _ _ (World.setCell (World.setCell w3 ⟨b5, i1 * 2, none⟩ _) ⟨b5, i1 * 2 + 1, none⟩ _); rw [Hw4.out])
                | fail "no arm")
              go_region
              all_goals go_wp2_with fail
              all_goals go_roundw
              all_goals first
                | exact ⟨k + 1, by omega, by go_num, HZ.out _⟩
                | (simp [intOf]; omega)
            · have hij' : ¬ i2 = i1 := fun e => hij e.symm
              go_upto_region 17 with (first
                | (refine wpList_store_mid rfl _ _ _ rfl b5 (i1 * 2) _ rfl rfl Hth.out (by kernel_rfl) (by simp [Value.oneCell']) ?_; change wpList _ _ _ _ _ (World.setCell (World.setCell w3 ⟨b5, i1 * 2, none⟩ _) ⟨b5, i1 * 2 + 1, none⟩ _); rw [Hw4.out])
                | fail "no arm")
              go_region
              all_goals go_wp2_with fail
              all_goals go_roundw
              all_goals first
                | exact ⟨k + 1, by omega, by go_num, HZ.out _⟩
                | (simp [intOf]; omega)
        · have hle : decide ((k : Int) ≤ (l.length : Int)) = false := decide_eq_false (by omega)
          have hle' : decide (k ≤ l.length) = false := decide_eq_false hlt
          obtain ⟨L, T, a4, a5, c4, c5, g4, g5, rfl, rfl, hI⟩ := hI
          clear hI
          go_wp2_with fail
          go_ret
          exact HR.out
end Go.Proofs.Ytlgnpogmgpgdaaa
