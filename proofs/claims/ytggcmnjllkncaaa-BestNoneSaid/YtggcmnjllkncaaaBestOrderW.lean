/- BestOrder's walk. -/
import Derived.Test.YtggcmnjllkncaaaBestLaw
namespace Go.Proofs.Ytggcmnjllkncaaa
set_option linter.unusedSimpArgs false
set_option linter.unusedVariables false
set_option maxRecDepth 100000
open Go.RowKit

theorem eachV_one {M : List VisD} {s : Nat} {S : List Nat} {m : Nat} (hs : ∀ x ∈ M, x.1 = s) (hS : SrcsR M S) : eachV S M m = bestL M m := by
  cases M with
  | nil =>
    obtain rfl := hS.one (T := []) ⟨.nil, fun s => by simp⟩
    simp [eachV, bestL, sortV]
  | cons x M =>
    obtain rfl := hS.one (T := [s]) ⟨List.pairwise_singleton _ _, fun t => by
      rw [List.mem_singleton]
      constructor
      · rintro rfl; exact ⟨x, by simp, hs x (by simp)⟩
      · rintro ⟨y, hy, rfl⟩; exact hs y hy⟩
    have : ofSrc (x :: M) s = x :: M := List.filter_eq_self.2 (fun y hy => by simpa using hs y hy)
    simp [eachV, this]
theorem eachone_any (M : List VisD) (s : Nat) (most : Int) (ao : Option Addr) (cap : Nat) (fp : Nat → Prop) (w : World) (hs : ∀ x ∈ M, x.1 = s) (hl : M.length ≤ 1000) (h0 : -9223372036854775808 ≤ most) (h1 : most ≤ 9223372036854775807) (hrd : RdS visRep fp w ao M) :
    Calls Try.prog 15 #[.slice ao M.length cap, .int .i64 most] w (RowsVis (bestL M most.toNat) w) :=
  (each_any M most ao cap fp w hl h0 h1 hrd).mono fun e w' ⟨S, hS, h⟩ => by rwa [eachV_one hs hS] at h
set_option maxRecDepth 100000 in
set_option maxHeartbeats 6400000 in
theorem border_walk (L : List VisD) (ao : Option Addr) (cap : Nat) (i k most more : Int) (fp : Nat → Prop) (w : World) (hi : -9223372036854775808 ≤ i ∧ i ≤ 9223372036854775807) (hk : -9223372036854775808 ≤ k ∧ k ≤ 9223372036854775807) (h0 : -9223372036854775808 ≤ most ∧ most ≤ 9223372036854775807) (h1 : -9223372036854775808 ≤ more ∧ more ≤ 9223372036854775807) (hrd : RdS visRep fp w ao L) :
    Calls Try.prog 5 #[.slice ao L.length cap, .int .i64 i, .int .i64 k, .int .i64 most, .int .i64 more] w (RetB (.bool true) w) := by
  have HA := Lib.hid awake29_any
  by_cases hl : L.length ≤ 60
  · have g1 : decide (60 < (L.length : Int)) = false := decide_eq_false (by omega)
    have g1' : decide (60 < L.length) = false := decide_eq_false (by omega)
    by_cases hi0 : i < 0
    · have g2 : decide (i < 0) = true := decide_eq_true hi0
      clear hrd
      go_enter Try.func5, Try.ntmps5
      go_wp2_with (go_at_call 7; refine (HA.out _).mono ?_; rintro e w5 ⟨rfl, hB5⟩; have HB5 := Lib.hid hB5; clear hB5)
      go_ret
      exact ⟨rfl, HB5.out⟩
    have g2 : decide (i < 0) = false := decide_eq_false hi0
    by_cases hk0 : k < 0
    · have g3 : decide (k < 0) = true := decide_eq_true hk0
      clear hrd
      go_enter Try.func5, Try.ntmps5
      go_wp2_with (go_at_call 7; refine (HA.out _).mono ?_; rintro e w5 ⟨rfl, hB5⟩; have HB5 := Lib.hid hB5; clear hB5)
      go_ret
      exact ⟨rfl, HB5.out⟩
    have g3 : decide (k < 0) = false := decide_eq_false hk0
    by_cases hil : (L.length : Int) ≤ i
    · have g4 : decide ((L.length : Int) ≤ i) = true := decide_eq_true hil
      clear hrd
      go_enter Try.func5, Try.ntmps5
      go_wp2_with (go_at_call 7; refine (HA.out _).mono ?_; rintro e w5 ⟨rfl, hB5⟩; have HB5 := Lib.hid hB5; clear hB5)
      go_ret
      exact ⟨rfl, HB5.out⟩
    have g4 : decide ((L.length : Int) ≤ i) = false := decide_eq_false hil
    by_cases hkl : (L.length : Int) ≤ k
    · have g5 : decide ((L.length : Int) ≤ k) = true := decide_eq_true hkl
      clear hrd
      go_enter Try.func5, Try.ntmps5
      go_wp2_with (go_at_call 7; refine (HA.out _).mono ?_; rintro e w5 ⟨rfl, hB5⟩; have HB5 := Lib.hid hB5; clear hB5)
      go_ret
      exact ⟨rfl, HB5.out⟩
    have g5 : decide ((L.length : Int) ≤ k) = false := decide_eq_false hkl
    by_cases hmm : more < most
    · have g6 : decide (more < most) = true := decide_eq_true hmm
      clear hrd
      go_enter Try.func5, Try.ntmps5
      go_wp2_with (go_at_call 7; refine (HA.out _).mono ?_; rintro e w5 ⟨rfl, hB5⟩; have HB5 := Lib.hid hB5; clear hB5)
      go_ret
      exact ⟨rfl, HB5.out⟩
    have g6 : decide (more < most) = false := decide_eq_false hmm
    have HOf := Lib.hid (of_any L 5 ao cap fp w (by omega) (by omega) hrd)
    have HMl := Lib.hid (show (ofL L 5).length = L.length by simp [ofL])
    have HMs := Lib.hid (show ∀ x ∈ ofL L 5, x.1 = 5 from fun x hx => by obtain ⟨y, _, rfl⟩ := List.mem_map.1 hx; rfl)
    have H01 := Lib.hid (And.intro h0 h1)
    have HMM := Lib.hid hmm
    obtain ⟨i, rfl⟩ := Int.eq_ofNat_of_zero_le (by omega : 0 ≤ i)
    obtain ⟨k, rfl⟩ := Int.eq_ofNat_of_zero_le (by omega : 0 ≤ k)
    have hE := visElemS
    have HLb := Lib.hid hl
    have HIl := Lib.hid (show i < L.length by omega)
    have HKl := Lib.hid (show k < L.length by omega)
    obtain ⟨M, hM⟩ : ∃ M, ofL L 5 = M := ⟨_, rfl⟩
    rw [hM] at HOf HMl HMs
    clear hM hrd hi0 hk0 hil hkl hmm h0 h1 hl
    go_enter Try.func5, Try.ntmps5
    have hML : M.length = L.length := HMl.out
    have hiM : i < M.length := by rw [hML]; exact HIl.out
    have hkM : k < M.length := by rw [hML]; exact HKl.out
    have HML := Lib.hid hML
    have hMb : M.length ≤ 60 := by rw [hML]; exact HLb.out
    clear hML
    go_wp2_with (first
      | (go_at_call 8; refine HOf.out.mono ?_; rintro e w2 ⟨a, c, gown, rfl, hO, hG, hB2⟩; obtain ⟨bo, rfl, rfl⟩ := hO.block (by omega); obtain ⟨css, hall, hsrc⟩ := RdS.srcAll oneVis (tx := 22) Try.underlying22 hO.rd; have Hall := Lib.hid hall; have Hsrc := Lib.hid hsrc; have HO := Lib.hid hO; have HG := Lib.hid hG; have HB2 := Lib.hid hB2; clear hO hG hB2 hall hsrc)
      | (at_builtin; refine wpList_app rfl (.tmp 47) (.tmp 48) 22 22 rfl hE (Own.emptyAt w2 31 3 w2.heap.size rfl) rfl rfl (Hsrc.out _ (ext_alloc w2 _) c) (by simp [maxLen]; omega) (by omega) ?_; intro ao4 cap4 g4 w4 ho4 hg4 hon4; obtain ⟨hG4, hBB4⟩ := app_blocksM (w := w2) (W := w2.alloc (.cells #[] 31)) (fun k h => by cases h; exact Nat.le_refl _) (ext_alloc w2 _) hg4 hon4; rw [Nat.zero_add, List.nil_append] at ho4; try rw [Nat.zero_add]; have Ho4 := Lib.hid ho4; have HG4 := Lib.hid hG4; have HB4 := Lib.hid hBB4; clear ho4 hg4 hon4 hG4 hBB4))
    have hO4 : OwnS visRep (fun _ => False) w4 ao4 cap4 g4 31 M := ⟨css, Ho4.out, vis_nofp Hall.out _⟩
    obtain ⟨bb, rfl, rfl⟩ := hO4.block (by omega)
    have HO4 := Lib.hid hO4
    have HOw := Lib.hid (HO.out.ext HB4.out)
    have hbo2 := HO.out.lt bo rfl
    have hbb2 := HG4.out bb rfl
    have hbo4 : bo < w4.heap.size := HOw.out.lt bo rfl
    have hbb4 : bb < w4.heap.size := HO4.out.lt bb rfl
    have hne : ¬ bo = bb := by omega
    clear hO4
    obtain ⟨b0, off0, hab, _, _, x0, x1, x2, hx⟩ := HOw.out.rd.vis k hkM
    cases hab
    obtain ⟨b1, off1, hab, _, _, y0, y1, y2, hy⟩ := HOw.out.rd.vis i hiM
    cases hab
    have hvk : vat M k = M[k] := vat_get hkM
    have hvi : vat M i = M[i] := vat_get hiM
    have HPm := Lib.hid (show ((M.set i (vat M k)).set k (vat M i)).Perm M by rw [hvk, hvi]; exact List.set_set_perm hiM hkM)
    have HPs := Lib.hid (show ∀ x ∈ (M.set i (vat M k)).set k (vat M i), x.1 = 5 from fun x hx => HMs.out x (HPm.out.mem_iff.1 hx))
    clear hvk hvi
    obtain ⟨X, hX⟩ : ∃ X, vat M k = X := ⟨_, rfl⟩
    obtain ⟨Y, hY⟩ : ∃ X, vat M i = X := ⟨_, rfl⟩
    rw [hX] at x0 x1 x2 hx HPm HPs
    rw [hY] at y0 y1 y2 hy HPm HPs
    clear hX hY
    obtain ⟨X0, X1, X2⟩ := X
    obtain ⟨Y0, Y1, Y2⟩ := Y
    simp only [Nat.zero_add] at x0 x1 x2 y0 y1 y2
    have HSk := Lib.hid (show ∀ W, Only (fun q => q = bb) w4 W → (W.cell? ⟨bo, k * 3, none⟩ = some (.int .u32 (X0 : Nat)) ∧ W.cell? ⟨bo, k * 3 + 1, none⟩ = some (.int .u32 (X1 : Nat)) ∧ W.cell? ⟨bo, k * 3 + 2, none⟩ = some (.int .u64 (X2 : Nat))) ∧ W.cell? ⟨bo, i * 3, none⟩ = some (.int .u32 (Y0 : Nat)) ∧ W.cell? ⟨bo, i * 3 + 1, none⟩ = some (.int .u32 (Y1 : Nat)) ∧ W.cell? ⟨bo, i * 3 + 2, none⟩ = some (.int .u64 (Y2 : Nat)) from fun W h =>
      ⟨⟨(h.cell hbo4 hne _).trans x0, (h.cell hbo4 hne _).trans x1, (h.cell hbo4 hne _).trans x2⟩, (h.cell hbo4 hne _).trans y0, (h.cell hbo4 hne _).trans y1, (h.cell hbo4 hne _).trans y2⟩)
    have hOd := HO4.out.ext (ext_drew w4)
    have Hth := Lib.hid (show w4.drew.there bb (i * 3) 3 from hOd.there hiM)
    have hO1 := hOd.setAt (fun _ h => h.elim) hiM (x := (X0, X1, X2)) (cs := [.int .u32 (X0 : Nat), .int .u32 (X1 : Nat), .int .u64 (X2 : Nat)]) (visRep_ok hx)
    have hkl2 : k < (M.set i (X0, X1, X2)).length := by rw [List.length_set]; exact hkM
    have Hth2 := Lib.hid (show (w4.drew.setCells bb (i * 3) [.int .u32 (X0 : Nat), .int .u32 (X1 : Nat), .int .u64 (X2 : Nat)]).there bb (k * 3) 3 from hO1.there hkl2)
    have HOX := Lib.hid (show OwnS visRep (fun _ => False) ((w4.drew.setCells bb (i * 3) [.int .u32 (X0 : Nat), .int .u32 (X1 : Nat), .int .u64 (X2 : Nat)]).setCells bb (k * 3) [.int .u32 (Y0 : Nat), .int .u32 (Y1 : Nat), .int .u64 (Y2 : Nat)]) (some ⟨bb, 0, none⟩) cap4 (some bb) 31 ((M.set i (X0, X1, X2)).set k (Y0, Y1, Y2)) from hO1.setAt (fun _ h => h.elim) hkl2 (x := (Y0, Y1, Y2)) (cs := [.int .u32 (Y0 : Nat), .int .u32 (Y1 : Nat), .int .u64 (Y2 : Nat)]) (visRep_ok hy))
    have hir : (i : Int) < (M.length : Int) := by omega
    have hkr : (k : Int) < (M.length : Int) := by omega
    clear hOd hO1 hx hy
    refine wp_region_held (S := fun w' => (w'.cell? ⟨bo, k * 3, none⟩ = some (.int .u32 (X0 : Nat)) ∧ w'.cell? ⟨bo, k * 3 + 1, none⟩ = some (.int .u32 (X1 : Nat)) ∧ w'.cell? ⟨bo, k * 3 + 2, none⟩ = some (.int .u64 (X2 : Nat))) ∧ w'.cell? ⟨bo, i * 3, none⟩ = some (.int .u32 (Y0 : Nat)) ∧ w'.cell? ⟨bo, i * 3 + 1, none⟩ = some (.int .u32 (Y1 : Nat)) ∧ w'.cell? ⟨bo, i * 3 + 2, none⟩ = some (.int .u64 (Y2 : Nat))) (by kernel_rfl) ?_
    have HD := Lib.hid (show Only (fun q => q = bb) w4 w4.drew from (Only.refl _ _).drew)
    have hS0 := HSk.out _ HD.out
    change wpAnyH _ _ _ _ _ _ _ _ (World.drew _)
    refine wpAnyH_take (i := 0) (oi := ⟨some 50, _, _, _, _, _⟩) (v := ?_) rfl (by kernel_rfl) (by kernel_rfl) (by kernel_rfl) (fun _ _ _ h => h) (Or.inl ⟨by rfl, ?_⟩) hS0 ?_
    rotate_left
    · (intro w' hSw; obtain ⟨⟨s0, s1, s2⟩, s3, s4, s5⟩ := hSw; go_simp; try (with_reducible rfl))
    simp only [Act.put, List.setIfInBounds_toArray, List.set_cons_zero, List.set_cons_succ]
    refine wpAnyH_take (i := 1) (oi := ⟨some 51, _, _, _, _, _⟩) (v := ?_) rfl (by kernel_rfl) (by kernel_rfl) (by kernel_rfl) (fun _ _ _ h => h) (Or.inl ⟨by rfl, ?_⟩) hS0 ?_
    rotate_left
    · (intro w' hSw; obtain ⟨⟨s0, s1, s2⟩, s3, s4, s5⟩ := hSw; go_simp; try (with_reducible rfl))
    simp only [Act.put, List.setIfInBounds_toArray, List.set_cons_zero, List.set_cons_succ]
    refine wpAnyH_take (i := 2) (oi := ⟨some 52, _, _, _, _, _⟩) (v := ?_) rfl (by kernel_rfl) (by kernel_rfl) (by kernel_rfl) (fun _ _ _ h => h) (Or.inl ⟨by rfl, ?_⟩) hS0 ?_
    rotate_left
    · (intro w' hSw; obtain ⟨⟨s0, s1, s2⟩, s3, s4, s5⟩ := hSw; go_simp; try (with_reducible rfl))
    simp only [Act.put, List.setIfInBounds_toArray, List.set_cons_zero, List.set_cons_succ]
    refine wpAnyH_take (i := 3) (oi := ⟨some 53, _, _, _, _, _⟩) (v := ?_) rfl (by kernel_rfl) (by kernel_rfl) (by kernel_rfl) (fun _ _ _ h => h) (Or.inl ⟨by rfl, ?_⟩) hS0 ?_
    rotate_left
    · (intro w' hSw; obtain ⟨⟨s0, s1, s2⟩, s3, s4, s5⟩ := hSw; go_simp; try (with_reducible rfl))
    simp only [Act.put, List.setIfInBounds_toArray, List.set_cons_zero, List.set_cons_succ]
    refine wpAnyH_take (i := 4) (oi := ⟨some 54, _, _, _, _, _⟩) (v := ?_) rfl (by kernel_rfl) (by kernel_rfl) (by kernel_rfl) (fun _ _ _ h => h) (Or.inl ⟨by rfl, ?_⟩) hS0 ?_
    rotate_left
    · (intro w' hSw; obtain ⟨⟨s0, s1, s2⟩, s3, s4, s5⟩ := hSw; go_simp; try (with_reducible rfl))
    simp only [Act.put, List.setIfInBounds_toArray, List.set_cons_zero, List.set_cons_succ]
    refine wpAnyH_take (i := 5) (oi := ⟨some 55, _, _, _, _, _⟩) (v := ?_) rfl (by kernel_rfl) (by kernel_rfl) (by kernel_rfl) (fun _ _ _ h => h) (Or.inl ⟨by rfl, ?_⟩) hS0 ?_
    rotate_left
    · (intro w' hSw; obtain ⟨⟨s0, s1, s2⟩, s3, s4, s5⟩ := hSw; go_simp; try (with_reducible rfl))
    simp only [Act.put, List.setIfInBounds_toArray, List.set_cons_zero, List.set_cons_succ]
    refine wpAnyH_take (i := 6) (oi := ⟨some 56, _, _, _, _, _⟩) (v := ?_) rfl (by kernel_rfl) (by kernel_rfl) (by kernel_rfl) (fun _ _ _ h => h) (Or.inl ⟨by rfl, ?_⟩) hS0 ?_
    rotate_left
    · (intro w' hSw; obtain ⟨⟨s0, s1, s2⟩, s3, s4, s5⟩ := hSw; go_simp; try (with_reducible rfl))
    simp only [Act.put, List.setIfInBounds_toArray, List.set_cons_zero, List.set_cons_succ]
    refine wpAnyH_take (i := 7) (oi := ⟨some 57, _, _, _, _, _⟩) (v := ?_) rfl (by kernel_rfl) (by kernel_rfl) (by kernel_rfl) (fun _ _ _ h => h) (Or.inl ⟨by rfl, ?_⟩) hS0 ?_
    rotate_left
    · (intro w' hSw; obtain ⟨⟨s0, s1, s2⟩, s3, s4, s5⟩ := hSw; go_simp; try (with_reducible rfl))
    simp only [Act.put, List.setIfInBounds_toArray, List.set_cons_zero, List.set_cons_succ]
    refine wpAnyH_take (i := 8) (oi := ⟨some 58, _, _, _, _, _⟩) (v := ?_) rfl (by kernel_rfl) (by kernel_rfl) (by kernel_rfl) (fun _ _ _ h => h) (Or.inl ⟨by rfl, ?_⟩) hS0 ?_
    rotate_left
    · (intro w' hSw; obtain ⟨⟨s0, s1, s2⟩, s3, s4, s5⟩ := hSw; go_simp; try (with_reducible rfl))
    simp only [Act.put, List.setIfInBounds_toArray, List.set_cons_zero, List.set_cons_succ]
    refine wpAnyH_take (i := 9) (oi := ⟨some 59, _, _, _, _, _⟩) (v := ?_) rfl (by kernel_rfl) (by kernel_rfl) (by kernel_rfl) (fun _ _ _ h => h) (Or.inl ⟨by rfl, ?_⟩) hS0 ?_
    rotate_left
    · (intro w' hSw; obtain ⟨⟨s0, s1, s2⟩, s3, s4, s5⟩ := hSw; go_simp; try (with_reducible rfl))
    simp only [Act.put, List.setIfInBounds_toArray, List.set_cons_zero, List.set_cons_succ]
    refine wpAnyH_take (i := 10) (oi := ⟨some 60, _, _, _, _, _⟩) (v := ?_) rfl (by kernel_rfl) (by kernel_rfl) (by kernel_rfl) (fun _ _ _ h => h) (Or.inl ⟨by rfl, ?_⟩) hS0 ?_
    rotate_left
    · (intro w' hSw; obtain ⟨⟨s0, s1, s2⟩, s3, s4, s5⟩ := hSw; go_simp; try (with_reducible rfl))
    simp only [Act.put, List.setIfInBounds_toArray, List.set_cons_zero, List.set_cons_succ]
    refine wpAnyH_take (i := 11) (oi := ⟨some 61, _, _, _, _, _⟩) (v := ?_) rfl (by kernel_rfl) (by kernel_rfl) (by kernel_rfl) (fun _ _ _ h => h) (Or.inl ⟨by rfl, ?_⟩) hS0 ?_
    rotate_left
    · (intro w' hSw; obtain ⟨⟨s0, s1, s2⟩, s3, s4, s5⟩ := hSw; go_simp; try (with_reducible rfl))
    simp only [Act.put, List.setIfInBounds_toArray, List.set_cons_zero, List.set_cons_succ]
    refine wpAnyH_take (i := 12) (oi := ⟨some 62, _, _, _, _, _⟩) (v := ?_) rfl (by kernel_rfl) (by kernel_rfl) (by kernel_rfl) (fun _ _ _ h => h) (Or.inl ⟨by rfl, ?_⟩) hS0 ?_
    rotate_left
    · (intro w' hSw; obtain ⟨⟨s0, s1, s2⟩, s3, s4, s5⟩ := hSw; go_simp; try (with_reducible rfl))
    simp only [Act.put, List.setIfInBounds_toArray, List.set_cons_zero, List.set_cons_succ]
    refine wpAnyH_all (rs := [13]) (by kernel_rfl) (by simp) ?_
    intro i hi
    rw [List.mem_singleton] at hi
    subst hi
    refine wpOp_runG (o := ⟨none, _, _, _, _, _⟩) rfl rfl fun K' hK => ?_
    refine wp_store_mid _ _ _ rfl bb (i * 3) #[.int .u32 (X0 : Nat), .int .u32 (X1 : Nat), .int .u64 (X2 : Nat)] rfl rfl Hth.out (by kernel_rfl) (by simp [Value.oneCell']) ?_
    refine hK _ _ ⟨HSk.out _ ?_, ?_⟩
    · exact HD.out.trans (only_setCells bb _ _ _) (fun _ _ h => h)
    clear hK K'
    try simp only [Act.put, List.setIfInBounds_toArray, List.set_cons_zero, List.set_cons_succ]
    change wpAnyH _ _ _ _ _ _ _ _ (World.setCells w4.drew bb (i * 3) [.int .u32 (X0 : Nat), .int .u32 (X1 : Nat), .int .u64 (X2 : Nat)])
    clear hS0
    have hS0 := HSk.out _ (show Only (fun q => q = bb) w4 (World.setCells w4.drew bb (i * 3) [.int .u32 (X0 : Nat), .int .u32 (X1 : Nat), .int .u64 (X2 : Nat)]) from HD.out.trans (only_setCells bb _ _ _) (fun _ _ h => h))
    refine wpAnyH_take (i := 14) (oi := ⟨some 63, _, _, _, _, _⟩) (v := ?_) rfl (by kernel_rfl) (by kernel_rfl) (by kernel_rfl) (fun _ _ _ h => h) (Or.inl ⟨by rfl, ?_⟩) hS0 ?_
    rotate_left
    · (intro w' hSw; obtain ⟨⟨s0, s1, s2⟩, s3, s4, s5⟩ := hSw; go_simp; try (with_reducible rfl))
    simp only [Act.put, List.setIfInBounds_toArray, List.set_cons_zero, List.set_cons_succ]
    refine wpAnyH_all (rs := [15]) (by kernel_rfl) (by simp) ?_
    intro i hi
    rw [List.mem_singleton] at hi
    subst hi
    refine wpOp_runG (o := ⟨none, _, _, _, _, _⟩) rfl rfl fun K' hK => ?_
    refine wp_store_mid _ _ _ rfl bb (k * 3) #[.int .u32 (Y0 : Nat), .int .u32 (Y1 : Nat), .int .u64 (Y2 : Nat)] rfl rfl Hth2.out (by kernel_rfl) (by simp [Value.oneCell']) ?_
    refine hK _ _ ⟨HSk.out _ ?_, ?_⟩
    · exact (HD.out.trans (only_setCells bb _ _ _) (fun _ _ h => h)).trans (only_setCells bb _ _ _) (fun _ _ h => h)
    clear hK K'
    try simp only [Act.put, List.setIfInBounds_toArray, List.set_cons_zero, List.set_cons_succ]
    refine wpAnyH_done (by kernel_rfl) ?_ _
    have hon6 : Only (fun q => q = bb) w4 ((w4.drew.setCells bb (i * 3) [.int .u32 (X0 : Nat), .int .u32 (X1 : Nat), .int .u64 (X2 : Nat)]).setCells bb (k * 3) [.int .u32 (Y0 : Nat), .int .u32 (Y1 : Nat), .int .u64 (Y2 : Nat)]) := (HD.out.trans (only_setCells bb _ _ _) (fun _ _ h => h)).trans (only_setCells bb _ _ _) (fun _ _ h => h)
    change Exit.then _ _ _ _ ((w4.drew.setCells bb (i * 3) [.int .u32 (X0 : Nat), .int .u32 (X1 : Nat), .int .u64 (X2 : Nat)]).setCells bb (k * 3) [.int .u32 (Y0 : Nat), .int .u32 (Y1 : Nat), .int .u64 (Y2 : Nat)])
    obtain ⟨w6, hw6⟩ : ∃ w6, (w4.drew.setCells bb (i * 3) [.int .u32 (X0 : Nat), .int .u32 (X1 : Nat), .int .u64 (X2 : Nat)]).setCells bb (k * 3) [.int .u32 (Y0 : Nat), .int .u32 (Y1 : Nat), .int .u64 (Y2 : Nat)] = w6 := ⟨_, rfl⟩
    rw [hw6] at HOX hon6 ⊢
    have HR1 := Lib.hid (HOw.out.only hon6 (fun q hq _ e => by rcases hq with h | h; exact h; exact hne (by rw [← e]; exact Option.some.inj h))).rd
    have HB6 := Lib.hid (show Below w.heap.size w w6 from HB2.out.trans ((HB4.out.mono HB2.out.size).trans (hon6.below (by have := HB4.out.size; have := HB2.out.size; omega) (fun q hq e => by have := HB2.out.size; omega))))
    clear hw6 hon6 HD hS0
    obtain ⟨N, hN⟩ : ∃ N, (M.set i (X0, X1, X2)).set k (Y0, Y1, Y2) = N := ⟨_, rfl⟩
    rw [hN] at HOX HPm HPs
    clear hN
    have hNl : M.length = N.length := HPm.out.length_eq.symm
    have HE1 := Lib.hid (fun W (h : Below w6.heap.size w6 W) => eachone_any M 5 most (some ⟨bo, 0, none⟩) c _ W HMs.out (by omega) H01.out.1.1 H01.out.1.2 (HR1.out.ext h))
    have HE2 := Lib.hid (fun W (h : Below w6.heap.size w6 W) => eachone_any N 5 most (some ⟨bb, 0, none⟩) cap4 _ W HPs.out (by omega) H01.out.1.1 H01.out.1.2 (HOX.out.rd.ext h))
    have HE3 := Lib.hid (fun W (h : Below w6.heap.size w6 W) => eachone_any M 5 more (some ⟨bo, 0, none⟩) c _ W HMs.out (by omega) H01.out.2.1 H01.out.2.2 (HR1.out.ext h))
    rw [← hNl] at HE2
    have hNB : bestL N most.toNat = bestL M most.toNat := by unfold bestL; rw [sortV_perm HPm.out]
    rw [hNB] at HE2
    have HT := Lib.hid (show bestL M most.toNat = (bestL M more.toNat).take (bestL M most.toNat).length from by
      have h1 := bestL_len M most.toNat
      have h2 := (sortV_all M).2.length_eq
      have := HMM.out
      rw [h1]
      unfold bestL
      rw [List.take_take]
      have h3 : min most.toNat M.length ≤ more.toNat := by omega
      rw [Nat.min_eq_left h3]
      by_cases h4 : most.toNat ≤ M.length
      · rw [Nat.min_eq_left h4]
      · rw [List.take_of_length_le (by omega), List.take_of_length_le (by omega)])
    have hq2 : (bestL M most.toNat).length ≤ (bestL M more.toNat).length := by
      rw [bestL_len, bestL_len]; have := HMM.out; omega
    have hq3 : (bestL M most.toNat).length ≤ 60 := by rw [bestL_len]; omega
    obtain ⟨Q, hQ⟩ : ∃ Q, bestL M most.toNat = Q := ⟨_, rfl⟩
    obtain ⟨Q', hQ'⟩ : ∃ Q, bestL M more.toNat = Q := ⟨_, rfl⟩
    rw [hQ] at HE1 HE2 HT hq2 hq3
    rw [hQ'] at HE3 HT hq2
    clear hQ hQ' hNB hNl
    have g7 : decide ((Q.length : Int) ≤ (Q'.length : Int)) = true := decide_eq_true (by omega)
    have g7' : decide (Q.length ≤ Q'.length) = true := decide_eq_true hq2
    clear x0 x1 x2 y0 y1 y2
    go_wp2_with (first
      | (go_at_call 15; (with_reducible refine (HE1.out w6 (Below.refl _ _)).mono ?_); rintro e w7 ⟨a7, c7, rfl, _, _, hrd7, hB7⟩; have HR7 := Lib.hid hrd7; have HB7 := Lib.hid hB7; clear hrd7 hB7)
      | (go_at_call 15; (with_reducible refine (HE2.out w7 HB7.out).mono ?_); rintro e w8 ⟨a8, c8, rfl, _, _, hrd8, hB8⟩; have HR8 := Lib.hid hrd8; have HB78 := Lib.hid hB8; have HB8 := Lib.hid (HB7.out.trans (hB8.mono HB7.out.size)); clear hrd8 hB8)
      | (go_at_call 15; (with_reducible refine (HE3.out w8 HB8.out).mono ?_); rintro e w9 ⟨a9, c9, rfl, h91, h92, hrd9, hB9⟩; have HR9 := Lib.hid hrd9; have hta := fun W => takeV_run a9 Q'.length c9 Q.length (by omega) W; have HR7' := Lib.hid ((HR7.out.ext HB78.out).ext hB9); have HSa := Lib.hid (vsame27_any Q a7 a8 c7 c8 _ _ w9 (by omega) HR7'.out (HR8.out.ext hB9)); have HSb := Lib.hid (fun q => vsame27_any Q a7 a9 c7 c9 _ _ (w9.drewN q) (by omega) (HR7'.out.ext (ext_drewN _ q)) ((show RdS visRep _ w9 a9 Q from HT.out ▸ HR9.out.take _).ext (ext_drewN _ q))); have HB9 := Lib.hid (HB8.out.trans (hB9.mono HB8.out.size)); clear hrd9 hB9 h91 h92)
      | (go_at_call 13; (with_reducible refine HSa.out.mono ?_); rintro e w10 ⟨rfl, q, rfl⟩)
      | (go_at_call 13; (with_reducible refine (HSb.out q).mono ?_); rintro e w11 ⟨rfl, q2, rfl⟩)
      | (go_at_call 7; refine (HA.out _).mono ?_; rintro e w12 ⟨rfl, hB12⟩; have HB12 := Lib.hid hB12; clear hB12))
    go_ret
    have h1 : Below w9.heap.size w9 (w9.drewN (q + q2)) := ext_drewN w9 (q + q2)
    have h3 : Below w9.heap.size (w9.drewN (q + q2)) w12 := HB12.out
    exact ⟨rfl, HB6.out.trans ((HB9.out.trans ((h1.trans h3).mono HB9.out.size)).mono HB6.out.size)⟩
  · have g1 : decide (60 < (L.length : Int)) = true := decide_eq_true (by omega)
    have g1' : decide (60 < L.length) = true := decide_eq_true (by omega)
    clear hrd
    go_enter Try.func5, Try.ntmps5
    go_wp2_with (go_at_call 7; refine (HA.out _).mono ?_; rintro e w5 ⟨rfl, hB5⟩; have HB5 := Lib.hid hB5; clear hB5)
    go_ret
    exact ⟨rfl, HB5.out⟩
end Go.Proofs.Ytggcmnjllkncaaa
