/- kept.Swap, kept.Push. -/
import Derived.Test.YtggcmnjllkncaaaBestOrd
import Derived.Test.YtggcmnjllkncaaaOwnSet
namespace Go.Proofs.Ytggcmnjllkncaaa
set_option linter.unusedSimpArgs false
set_option linter.unusedVariables false
set_option maxRecDepth 100000
open Go.RowKit

def KeptR (A : List VisD) (b cap : Nat) (w : World) (w' : World) : Prop := OwnS visRep (fun _ => False) w' (some ⟨b, 0, none⟩) cap (some b) 31 A ∧ Only (fun k => k = b) w w'
set_option maxRecDepth 100000 in
set_option maxHeartbeats 6400000 in
theorem kswap_any (A : List VisD) (i j b cap : Nat) (w : World) (hi : i < A.length) (hj : j < A.length) (hO : OwnS visRep (fun _ => False) w (some ⟨b, 0, none⟩) cap (some b) 31 A) :
    Calls Try.prog 81 #[.slice (some ⟨b, 0, none⟩) A.length cap, .int .i64 (i : Nat), .int .i64 (j : Nat)] w fun e w' => e = .returned (.tuple #[]) ∧ KeptR (swpV A i j) b cap w w' := by
  obtain ⟨b0, off, hab, _, hb, x0, x1, x2, hx⟩ := hO.rd.vis i hi
  cases hab
  obtain ⟨b1, off1, hab, _, _, y0, y1, y2, hy⟩ := hO.rd.vis j hj
  cases hab
  have hOd := hO.ext (ext_drew w)
  have Hth := Lib.hid (show w.drew.there b (i * 3) 3 from hOd.there hi)
  have hsw : swpV A i j = (A.set i (vat A j)).set j (vat A i) := rfl
  rw [hsw]
  obtain ⟨X, hX⟩ : ∃ X, vat A i = X := ⟨_, rfl⟩
  obtain ⟨Y, hY⟩ : ∃ X, vat A j = X := ⟨_, rfl⟩
  rw [hX] at x0 x1 x2 hx ⊢
  rw [hY] at y0 y1 y2 hy ⊢
  clear hX hY hsw
  obtain ⟨X0, X1, X2⟩ := X
  obtain ⟨Y0, Y1, Y2⟩ := Y
  simp only [Nat.zero_add] at x0 x1 x2 y0 y1 y2
  have hO1 := hOd.setAt (fun _ h => h.elim) hi (x := (Y0, Y1, Y2)) (cs := [.int .u32 (Y0 : Nat), .int .u32 (Y1 : Nat), .int .u64 (Y2 : Nat)]) (visRep_ok hy)
  have hjl : j < (A.set i (Y0, Y1, Y2)).length := by rw [List.length_set]; exact hj
  have Hth2 := Lib.hid (show (w.drew.setCells b (i * 3) [.int .u32 (Y0 : Nat), .int .u32 (Y1 : Nat), .int .u64 (Y2 : Nat)]).there b (j * 3) 3 from hO1.there hjl)
  have HOX := Lib.hid (show OwnS visRep (fun _ => False) ((w.drew.setCells b (i * 3) [.int .u32 (Y0 : Nat), .int .u32 (Y1 : Nat), .int .u64 (Y2 : Nat)]).setCells b (j * 3) [.int .u32 (X0 : Nat), .int .u32 (X1 : Nat), .int .u64 (X2 : Nat)]) (some ⟨b, 0, none⟩) cap (some b) 31 ((A.set i (Y0, Y1, Y2)).set j (X0, X1, X2)) from hO1.setAt (fun _ h => h.elim) hjl (x := (X0, X1, X2)) (cs := [.int .u32 (X0 : Nat), .int .u32 (X1 : Nat), .int .u64 (X2 : Nat)]) (visRep_ok hx))
  have hir : (i : Int) < (A.length : Int) := by omega
  have hjr : (j : Int) < (A.length : Int) := by omega
  clear hO hOd hO1 hx hy
  go_enter Try.func81, Try.ntmps81
  refine wp_region_held (S := fun _ => True) (by kernel_rfl) ?_
  have hS0 : (fun _ : World => True) w.drew := trivial
  change wpAnyH _ _ _ _ _ _ _ _ (World.drew _)
  refine wpAnyH_take (i := 0) (oi := ⟨some 6, _, _, _, _, _⟩) (v := ?_) rfl (by kernel_rfl) (by kernel_rfl) (by kernel_rfl) (fun _ _ _ h => h) (Or.inl ⟨by rfl, ?_⟩) hS0 ?_
  rotate_left
  · (intro w' hSw; clear hSw; go_simp; try (with_reducible rfl))
  simp only [Act.put, List.setIfInBounds_toArray, List.set_cons_zero, List.set_cons_succ]
  refine wpAnyH_take (i := 1) (oi := ⟨some 7, _, _, _, _, _⟩) (v := ?_) rfl (by kernel_rfl) (by kernel_rfl) (by kernel_rfl) (fun _ _ _ h => h) (Or.inl ⟨by rfl, ?_⟩) hS0 ?_
  rotate_left
  · (intro w' hSw; clear hSw; go_simp; try (with_reducible rfl))
  simp only [Act.put, List.setIfInBounds_toArray, List.set_cons_zero, List.set_cons_succ]
  refine wpAnyH_take (i := 2) (oi := ⟨some 8, _, _, _, _, _⟩) (v := ?_) rfl (by kernel_rfl) (by kernel_rfl) (by kernel_rfl) (fun _ _ _ h => h) (Or.inl ⟨by rfl, ?_⟩) hS0 ?_
  rotate_left
  · (intro w' hSw; clear hSw; go_simp; try (with_reducible rfl))
  simp only [Act.put, List.setIfInBounds_toArray, List.set_cons_zero, List.set_cons_succ]
  refine wpAnyH_take (i := 3) (oi := ⟨some 9, _, _, _, _, _⟩) (v := ?_) rfl (by kernel_rfl) (by kernel_rfl) (by kernel_rfl) (fun _ _ _ h => h) (Or.inl ⟨by rfl, ?_⟩) hS0 ?_
  rotate_left
  · (intro w' hSw; clear hSw; go_simp; try (with_reducible rfl))
  simp only [Act.put, List.setIfInBounds_toArray, List.set_cons_zero, List.set_cons_succ]
  refine wpAnyH_take (i := 4) (oi := ⟨some 10, _, _, _, _, _⟩) (v := ?_) rfl (by kernel_rfl) (by kernel_rfl) (by kernel_rfl) (fun _ _ _ h => h) (Or.inl ⟨by rfl, ?_⟩) hS0 ?_
  rotate_left
  · (intro w' hSw; clear hSw; go_simp; try (with_reducible rfl))
  simp only [Act.put, List.setIfInBounds_toArray, List.set_cons_zero, List.set_cons_succ]
  refine wpAnyH_take (i := 5) (oi := ⟨some 11, _, _, _, _, _⟩) (v := ?_) rfl (by kernel_rfl) (by kernel_rfl) (by kernel_rfl) (fun _ _ _ h => h) (Or.inl ⟨by rfl, ?_⟩) hS0 ?_
  rotate_left
  · (intro w' hSw; clear hSw; go_simp; try (with_reducible rfl))
  simp only [Act.put, List.setIfInBounds_toArray, List.set_cons_zero, List.set_cons_succ]
  refine wpAnyH_take (i := 6) (oi := ⟨some 12, _, _, _, _, _⟩) (v := ?_) rfl (by kernel_rfl) (by kernel_rfl) (by kernel_rfl) (fun _ _ _ h => h) (Or.inl ⟨by rfl, ?_⟩) hS0 ?_
  rotate_left
  · (intro w' hSw; clear hSw; go_simp; try (with_reducible rfl))
  simp only [Act.put, List.setIfInBounds_toArray, List.set_cons_zero, List.set_cons_succ]
  refine wpAnyH_take (i := 8) (oi := ⟨some 14, _, _, _, _, _⟩) (v := ?_) rfl (by kernel_rfl) (by kernel_rfl) (by kernel_rfl) (fun _ _ _ h => h) (Or.inl ⟨by rfl, ?_⟩) hS0 ?_
  rotate_left
  · (intro w' hSw; clear hSw; go_simp; try (with_reducible rfl))
  simp only [Act.put, List.setIfInBounds_toArray, List.set_cons_zero, List.set_cons_succ]
  refine wpAnyH_take (i := 9) (oi := ⟨some 15, _, _, _, _, _⟩) (v := ?_) rfl (by kernel_rfl) (by kernel_rfl) (by kernel_rfl) (fun _ _ _ h => h) (Or.inl ⟨by rfl, ?_⟩) hS0 ?_
  rotate_left
  · (intro w' hSw; clear hSw; go_simp; try (with_reducible rfl))
  simp only [Act.put, List.setIfInBounds_toArray, List.set_cons_zero, List.set_cons_succ]
  refine wpAnyH_take (i := 10) (oi := ⟨some 16, _, _, _, _, _⟩) (v := ?_) rfl (by kernel_rfl) (by kernel_rfl) (by kernel_rfl) (fun _ _ _ h => h) (Or.inl ⟨by rfl, ?_⟩) hS0 ?_
  rotate_left
  · (intro w' hSw; clear hSw; go_simp; try (with_reducible rfl))
  simp only [Act.put, List.setIfInBounds_toArray, List.set_cons_zero, List.set_cons_succ]
  refine wpAnyH_all (rs := [7, 11]) (by kernel_rfl) (by simp) ?_
  intro i' hi'
  simp only [List.mem_cons, List.not_mem_nil, or_false] at hi'
  rcases hi' with rfl | rfl
  · refine wpOp_runG (o := ⟨some 13, _, _, _, _, _⟩) rfl rfl fun K' hK => ?_
    go_simp
    refine hK _ _ ⟨trivial, ?_⟩
    clear hK K'
    try simp only [Act.put, List.setIfInBounds_toArray, List.set_cons_zero, List.set_cons_succ]
    refine wpAnyH_all (rs := [11]) (by kernel_rfl) (by simp) ?_
    intro i hi
    rw [List.mem_singleton] at hi
    subst hi
    refine wpOp_runG (o := ⟨some 17, _, _, _, _, _⟩) rfl rfl fun K' hK => ?_
    go_simp
    refine hK _ _ ⟨trivial, ?_⟩
    clear hK K'
    try simp only [Act.put, List.setIfInBounds_toArray, List.set_cons_zero, List.set_cons_succ]
    refine wpAnyH_take (i := 12) (oi := ⟨some 18, _, _, _, _, _⟩) (v := ?_) rfl (by kernel_rfl) (by kernel_rfl) (by kernel_rfl) (fun _ _ _ h => h) (Or.inl ⟨by rfl, ?_⟩) hS0 ?_
    rotate_left
    · (intro w' hSw; clear hSw; go_simp; try (with_reducible rfl))
    simp only [Act.put, List.setIfInBounds_toArray, List.set_cons_zero, List.set_cons_succ]
    refine wpAnyH_all (rs := [13]) (by kernel_rfl) (by simp) ?_
    intro i hi
    rw [List.mem_singleton] at hi
    subst hi
    refine wpOp_runG (o := ⟨none, _, _, _, _, _⟩) rfl rfl fun K' hK => ?_
    refine wp_store_mid _ _ _ rfl b (i * 3) #[.int .u32 (Y0 : Nat), .int .u32 (Y1 : Nat), .int .u64 (Y2 : Nat)] rfl rfl Hth.out (by kernel_rfl) (by simp [Value.oneCell']) ?_
    refine hK _ _ ⟨trivial, ?_⟩
    clear hK K'
    try simp only [Act.put, List.setIfInBounds_toArray, List.set_cons_zero, List.set_cons_succ]
    change wpAnyH _ _ _ _ _ _ _ _ (World.setCells w.drew b (i * 3) [.int .u32 (Y0 : Nat), .int .u32 (Y1 : Nat), .int .u64 (Y2 : Nat)])
    refine wpAnyH_take (i := 14) (oi := ⟨some 19, _, _, _, _, _⟩) (v := ?_) rfl (by kernel_rfl) (by kernel_rfl) (by kernel_rfl) (fun _ _ _ h => h) (Or.inl ⟨by rfl, ?_⟩) hS0 ?_
    rotate_left
    · (intro w' hSw; clear hSw; go_simp; try (with_reducible rfl))
    simp only [Act.put, List.setIfInBounds_toArray, List.set_cons_zero, List.set_cons_succ]
    refine wpAnyH_all (rs := [15]) (by kernel_rfl) (by simp) ?_
    intro i hi
    rw [List.mem_singleton] at hi
    subst hi
    refine wpOp_runG (o := ⟨none, _, _, _, _, _⟩) rfl rfl fun K' hK => ?_
    refine wp_store_mid _ _ _ rfl b (j * 3) #[.int .u32 (X0 : Nat), .int .u32 (X1 : Nat), .int .u64 (X2 : Nat)] rfl rfl Hth2.out (by kernel_rfl) (by simp [Value.oneCell']) ?_
    refine hK _ _ ⟨trivial, ?_⟩
    clear hK K'
    try simp only [Act.put, List.setIfInBounds_toArray, List.set_cons_zero, List.set_cons_succ]
    refine wpAnyH_done (by kernel_rfl) ?_ _
    change bodyPost _ _ _ _ _ (World.setCells (World.setCells w.drew b (i * 3) [.int .u32 (Y0 : Nat), .int .u32 (Y1 : Nat), .int .u64 (Y2 : Nat)]) b (j * 3) [.int .u32 (X0 : Nat), .int .u32 (X1 : Nat), .int .u64 (X2 : Nat)])
    obtain ⟨w3, hw3⟩ : ∃ w3, World.setCells (World.setCells w.drew b (i * 3) [.int .u32 (Y0 : Nat), .int .u32 (Y1 : Nat), .int .u64 (Y2 : Nat)]) b (j * 3) [.int .u32 (X0 : Nat), .int .u32 (X1 : Nat), .int .u64 (X2 : Nat)] = w3 := ⟨_, rfl⟩
    rw [hw3] at HOX ⊢
    have HO3 := Lib.hid (show Only (fun k => k = b) w w3 by rw [← hw3]; exact (((Only.refl (fun k => k = b) w).drew).trans (only_setCells b _ _ _) (fun _ _ h => h)).trans (only_setCells b _ _ _) (fun _ _ h => h))
    clear hw3
    go_end0
    exact ⟨rfl, HOX.out, HO3.out⟩
  · refine wpOp_runG (o := ⟨some 17, _, _, _, _, _⟩) rfl rfl fun K' hK => ?_
    go_simp
    refine hK _ _ ⟨trivial, ?_⟩
    clear hK K'
    try simp only [Act.put, List.setIfInBounds_toArray, List.set_cons_zero, List.set_cons_succ]
    refine wpAnyH_all (rs := [7]) (by kernel_rfl) (by simp) ?_
    intro i hi
    rw [List.mem_singleton] at hi
    subst hi
    refine wpOp_runG (o := ⟨some 13, _, _, _, _, _⟩) rfl rfl fun K' hK => ?_
    go_simp
    refine hK _ _ ⟨trivial, ?_⟩
    clear hK K'
    try simp only [Act.put, List.setIfInBounds_toArray, List.set_cons_zero, List.set_cons_succ]
    refine wpAnyH_take (i := 12) (oi := ⟨some 18, _, _, _, _, _⟩) (v := ?_) rfl (by kernel_rfl) (by kernel_rfl) (by kernel_rfl) (fun _ _ _ h => h) (Or.inl ⟨by rfl, ?_⟩) hS0 ?_
    rotate_left
    · (intro w' hSw; clear hSw; go_simp; try (with_reducible rfl))
    simp only [Act.put, List.setIfInBounds_toArray, List.set_cons_zero, List.set_cons_succ]
    refine wpAnyH_all (rs := [13]) (by kernel_rfl) (by simp) ?_
    intro i hi
    rw [List.mem_singleton] at hi
    subst hi
    refine wpOp_runG (o := ⟨none, _, _, _, _, _⟩) rfl rfl fun K' hK => ?_
    refine wp_store_mid _ _ _ rfl b (i * 3) #[.int .u32 (Y0 : Nat), .int .u32 (Y1 : Nat), .int .u64 (Y2 : Nat)] rfl rfl Hth.out (by kernel_rfl) (by simp [Value.oneCell']) ?_
    refine hK _ _ ⟨trivial, ?_⟩
    clear hK K'
    try simp only [Act.put, List.setIfInBounds_toArray, List.set_cons_zero, List.set_cons_succ]
    change wpAnyH _ _ _ _ _ _ _ _ (World.setCells w.drew b (i * 3) [.int .u32 (Y0 : Nat), .int .u32 (Y1 : Nat), .int .u64 (Y2 : Nat)])
    refine wpAnyH_take (i := 14) (oi := ⟨some 19, _, _, _, _, _⟩) (v := ?_) rfl (by kernel_rfl) (by kernel_rfl) (by kernel_rfl) (fun _ _ _ h => h) (Or.inl ⟨by rfl, ?_⟩) hS0 ?_
    rotate_left
    · (intro w' hSw; clear hSw; go_simp; try (with_reducible rfl))
    simp only [Act.put, List.setIfInBounds_toArray, List.set_cons_zero, List.set_cons_succ]
    refine wpAnyH_all (rs := [15]) (by kernel_rfl) (by simp) ?_
    intro i hi
    rw [List.mem_singleton] at hi
    subst hi
    refine wpOp_runG (o := ⟨none, _, _, _, _, _⟩) rfl rfl fun K' hK => ?_
    refine wp_store_mid _ _ _ rfl b (j * 3) #[.int .u32 (X0 : Nat), .int .u32 (X1 : Nat), .int .u64 (X2 : Nat)] rfl rfl Hth2.out (by kernel_rfl) (by simp [Value.oneCell']) ?_
    refine hK _ _ ⟨trivial, ?_⟩
    clear hK K'
    try simp only [Act.put, List.setIfInBounds_toArray, List.set_cons_zero, List.set_cons_succ]
    refine wpAnyH_done (by kernel_rfl) ?_ _
    change bodyPost _ _ _ _ _ (World.setCells (World.setCells w.drew b (i * 3) [.int .u32 (Y0 : Nat), .int .u32 (Y1 : Nat), .int .u64 (Y2 : Nat)]) b (j * 3) [.int .u32 (X0 : Nat), .int .u32 (X1 : Nat), .int .u64 (X2 : Nat)])
    obtain ⟨w3, hw3⟩ : ∃ w3, World.setCells (World.setCells w.drew b (i * 3) [.int .u32 (Y0 : Nat), .int .u32 (Y1 : Nat), .int .u64 (Y2 : Nat)]) b (j * 3) [.int .u32 (X0 : Nat), .int .u32 (X1 : Nat), .int .u64 (X2 : Nat)] = w3 := ⟨_, rfl⟩
    rw [hw3] at HOX ⊢
    have HO3 := Lib.hid (show Only (fun k => k = b) w w3 by rw [← hw3]; exact (((Only.refl (fun k => k = b) w).drew).trans (only_setCells b _ _ _) (fun _ _ h => h)).trans (only_setCells b _ _ _) (fun _ _ h => h))
    clear hw3
    go_end0
    exact ⟨rfl, HOX.out, HO3.out⟩
end Go.Proofs.Ytggcmnjllkncaaa
