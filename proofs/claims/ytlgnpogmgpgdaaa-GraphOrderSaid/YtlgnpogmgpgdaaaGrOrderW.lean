/- GraphOrder: the walk. -/
import Derived.Test.YtlgnpogmgpgdaaaGrOfW
import Derived.Test.YtlgnpogmgpgdaaaOwnSet
namespace Go.Proofs.Ytlgnpogmgpgdaaa
set_option linter.unusedSimpArgs false
set_option linter.unusedVariables false
set_option maxRecDepth 100000
open Go.RowKit

def swapE (l : List EdgeD) (i k : Nat) : List EdgeD := if h : i < l.length ∧ k < l.length then (l.set i (l[k]'h.2)).set k (l[i]'h.1) else l
theorem ofM_fit0 {l : List EdgeD} (hok : ∀ x ∈ l, okE x) (hl : l.length ≤ 100) : FitG (ofM l).1 := by
  obtain ⟨r, hr⟩ : ∃ r, ofM l = r := ⟨_, rfl⟩
  obtain ⟨R, er⟩ := r
  by_cases h : er = 0
  · subst h
    rw [hr]; exact ofM_fit hok hl hr
  · have : R = [] := by have := ofM_err (l := l) (by rw [hr]; exact h); rw [hr] at this; exact this
    rw [hr, this]; exact FitG.nil
set_option maxRecDepth 100000 in
set_option maxHeartbeats 32000000 in
theorem grorder_walk (l : List EdgeD) (ao : Option Addr) (ca : Nat) (i k : Int) (fp : Nat → Prop) (w : World) (hrd : RdS edgeRep fp w ao l) :
    Calls Try.prog 7 #[.slice ao l.length ca, .int .i64 i, .int .i64 k] w (RetB (.bool true) w) := by
  have HA := Lib.hid awake15_any
  have hE := edgesElem
  by_cases hb : 100 < l.length ∨ i < 0 ∨ k < 0 ∨ (l.length : Int) ≤ i ∨ (l.length : Int) ≤ k
  · clear hrd
    by_cases h1 : 100 < l.length
    · have d1 : decide (100 < l.length) = true := decide_eq_true h1
      have d1' : decide ((100 : Int) < (l.length : Int)) = true := decide_eq_true (by omega)
      clear hb
      go_enter Try.func7, Try.ntmps7
      go_wp2_with (go_at_call 23; (with_reducible refine (HA.out _).mono ?_); rintro e w1 ⟨rfl, hx⟩; have B1 := Lib.hid hx; clear hx)
      go_ret
      exact ⟨rfl, B1.out⟩
    have d1 : decide (100 < l.length) = false := decide_eq_false h1
    have d1' : decide ((100 : Int) < (l.length : Int)) = false := decide_eq_false (by omega)
    by_cases h2 : i < 0
    · have d2 : decide (i < 0) = true := decide_eq_true h2
      clear hb
      go_enter Try.func7, Try.ntmps7
      go_wp2_with (go_at_call 23; (with_reducible refine (HA.out _).mono ?_); rintro e w1 ⟨rfl, hx⟩; have B1 := Lib.hid hx; clear hx)
      go_ret
      exact ⟨rfl, B1.out⟩
    have d2 : decide (i < 0) = false := decide_eq_false h2
    by_cases h3 : k < 0
    · have d3 : decide (k < 0) = true := decide_eq_true h3
      clear hb
      go_enter Try.func7, Try.ntmps7
      go_wp2_with (go_at_call 23; (with_reducible refine (HA.out _).mono ?_); rintro e w1 ⟨rfl, hx⟩; have B1 := Lib.hid hx; clear hx)
      go_ret
      exact ⟨rfl, B1.out⟩
    have d3 : decide (k < 0) = false := decide_eq_false h3
    by_cases h4 : (l.length : Int) ≤ i
    · have d4 : decide ((l.length : Int) ≤ i) = true := decide_eq_true h4
      clear hb
      go_enter Try.func7, Try.ntmps7
      go_wp2_with (go_at_call 23; (with_reducible refine (HA.out _).mono ?_); rintro e w1 ⟨rfl, hx⟩; have B1 := Lib.hid hx; clear hx)
      go_ret
      exact ⟨rfl, B1.out⟩
    have d4 : decide ((l.length : Int) ≤ i) = false := decide_eq_false h4
    have h5 : (l.length : Int) ≤ k := by omega
    have d5 : decide ((l.length : Int) ≤ k) = true := decide_eq_true h5
    clear hb
    go_enter Try.func7, Try.ntmps7
    go_wp2_with (go_at_call 23; (with_reducible refine (HA.out _).mono ?_); rintro e w1 ⟨rfl, hx⟩; have B1 := Lib.hid hx; clear hx)
    go_ret
    exact ⟨rfl, B1.out⟩
  obtain ⟨h1, h2, h3, h4, h5⟩ : ¬ 100 < l.length ∧ ¬ i < 0 ∧ ¬ k < 0 ∧ ¬ (l.length : Int) ≤ i ∧ ¬ (l.length : Int) ≤ k := by omega
  obtain ⟨I, rfl⟩ : ∃ I : Nat, i = (I : Int) := ⟨i.toNat, by omega⟩
  obtain ⟨J, rfl⟩ : ∃ I : Nat, k = (I : Int) := ⟨k.toNat, by omega⟩
  have d1 : decide (100 < l.length) = false := decide_eq_false h1
  have d1' : decide ((100 : Int) < (l.length : Int)) = false := decide_eq_false (by omega)
  have d2 : decide ((I : Int) < 0) = false := decide_eq_false h2
  have d3 : decide ((J : Int) < 0) = false := decide_eq_false h3
  have d4 : decide ((l.length : Int) ≤ (I : Int)) = false := decide_eq_false h4
  have d4' : decide (l.length ≤ I) = false := decide_eq_false (by omega)
  have d5 : decide ((l.length : Int) ≤ (J : Int)) = false := decide_eq_false h5
  have d5' : decide (l.length ≤ J) = false := decide_eq_false (by omega)
  have hI : I < l.length := by omega
  have hJ : J < l.length := by omega
  have hok := edges_okE hrd
  obtain ⟨bb, off, rfl, hbb, x0, x1, x2, _⟩ := hrd.edgeM I hI
  obtain ⟨bb', off', hab, _, y0, y1, y2, _⟩ := hrd.edgeM J hJ
  cases hab
  obtain ⟨css, hall, hsrc⟩ := RdS.srcAll oneEdge (P := Try.prog) (tx := 46) Try.underlying46 hrd
  have Hsrc := Lib.hid hsrc
  have Hall := Lib.hid hall
  have Hrd := Lib.hid hrd
  have Hok := Lib.hid hok
  clear hsrc hall hrd hok
  obtain ⟨X, hX⟩ : ∃ X, l[I] = X := ⟨_, rfl⟩
  obtain ⟨Y, hY⟩ : ∃ X, l[J] = X := ⟨_, rfl⟩
  rw [hX] at x0 x1 x2
  rw [hY] at y0 y1 y2
  have HX := Lib.hid (And.intro hX hY)
  clear hX hY
  obtain ⟨X0, X1, X2⟩ := X
  obtain ⟨Y0, Y1, Y2⟩ := Y
  simp only at x0 x1 x2 y0 y1 y2
  have hir : (I : Int) < (l.length : Int) := by omega
  have hjr : (J : Int) < (l.length : Int) := by omega
  go_enter Try.func7, Try.ntmps7
  go_upto_region 4 with (at_builtin; refine wpList_app rfl (.tmp 36) (.tmp 37) 46 46 rfl hE (Own.emptyAt w 56 3 w.heap.size rfl) rfl rfl (Hsrc.out _ (ext_alloc w _) _) (by simp [maxLen]; omega) (by omega) ?_; intro ao1 cap1 g1 w1 ho1 hg1 hon1; rw [Nat.zero_add, List.nil_append] at ho1; obtain ⟨b1, rfl, rfl, hb1⟩ := ho1.pos (by omega); obtain ⟨hG, hBB⟩ := app_blocksM (w := w) (W := w.alloc (.cells #[] 56)) (fun k h => by cases h; exact Nat.le_refl _) (ext_alloc w _) hg1 hon1; have Ho1 := Lib.hid ho1; have HG := Lib.hid hG; have B1 := Lib.hid hBB; clear ho1 hg1 hon1 hG hBB)
  have hbn : w.heap.size ≤ b1 := HG.out b1 rfl
  have u0 := ((bcell B1.out).1 _ _ hbb).trans x0
  have u1 := ((bcell B1.out).1 _ _ hbb).trans x1
  have u2 := ((bcell B1.out).1 _ _ hbb).trans x2
  have v0 := ((bcell B1.out).1 _ _ hbb).trans y0
  have v1 := ((bcell B1.out).1 _ _ hbb).trans y1
  have v2 := ((bcell B1.out).1 _ _ hbb).trans y2
  clear x0 x1 x2 y0 y1 y2
  have hOS : OwnS edgeRep (fun _ => False) w1.drew (some ⟨b1, 0, none⟩) cap1 (some b1) 56 l := ⟨css, Ho1.out.ext (ext_drew _), forall2_imp (fun x cs h => by obtain ⟨c, d, h1, h2, e1, e2, h3, h4, h5⟩ := h; exact ⟨c, d, h1, h2, e1, e2, h3, h4, h5⟩) Hall.out⟩
  have hth := hOS.there hI
  have hwl : ∀ x ∈ l, okE x := Hok.out
  have hYk : edgeRep.ok w1.drew (fun _ => False) (Y0, Y1, Y2) [.int .u32 (Y0 : Nat), .int .u32 (Y1 : Nat), .int .u32 (Y2 : Nat)] := edgeRep_ok' (by rw [← HX.out.2]; exact hwl _ (List.getElem_mem hJ))
  have hOY := hOS.setAt (fun k h => h.elim) hI hYk
  have hth2 : (w1.drew.setCells b1 (I * 3) [.int .u32 (Y0 : Nat), .int .u32 (Y1 : Nat), .int .u32 (Y2 : Nat)]).there b1 (J * 3) 3 := hOY.there (k := J) (by rw [List.length_set]; exact hJ)
  have hXk : edgeRep.ok (w1.drew.setCells b1 (I * 3) [.int .u32 (Y0 : Nat), .int .u32 (Y1 : Nat), .int .u32 (Y2 : Nat)]) (fun _ => False) (X0, X1, X2) [.int .u32 (X0 : Nat), .int .u32 (X1 : Nat), .int .u32 (X2 : Nat)] := edgeRep_ok' (by rw [← HX.out.1]; exact hwl _ (List.getElem_mem hI))
  have hOX : OwnS edgeRep (fun _ => False) ((w1.drew.setCells b1 (I * 3) [.int .u32 (Y0 : Nat), .int .u32 (Y1 : Nat), .int .u32 (Y2 : Nat)]).setCells b1 (J * 3) [.int .u32 (X0 : Nat), .int .u32 (X1 : Nat), .int .u32 (X2 : Nat)]) (some ⟨b1, 0, none⟩) cap1 (some b1) 56 ((l.set I (Y0, Y1, Y2)).set J (X0, X1, X2)) := hOY.setAt (fun k h => h.elim) (k := J) (by rw [List.length_set]; exact hJ) hXk
  have hn1 : ∀ (W : World) (o : Nat) (cs : List Value) (q : Nat), W.heap.size ≥ w.heap.size → (W.setCells b1 o cs).cell? ⟨bb, q, none⟩ = W.cell? ⟨bb, q, none⟩ := fun W o cs q hs => (only_setCells b1 cs o W).cell (by omega) (by omega) q
  have Hth := Lib.hid hth
  have Hth2 := Lib.hid hth2
  have HOX := Lib.hid hOX
  have Hn1 := Lib.hid hn1
  have hz1 : w.heap.size ≤ w1.heap.size := B1.out.size
  clear hOS hth hYk hOY hth2 hXk hOX hn1 hwl
  have Hd := Lib.hid (And.intro d1 (And.intro d4 d5))
  clear d1 d1' d2 d3 d4 d4' d5 d5' hE
  refine wp_region_held (S := fun w' : World => w'.cell? ⟨bb, off + I * 3, none⟩ = some (.int .u32 (X0 : Nat)) ∧ w'.cell? ⟨bb, off + I * 3 + 1, none⟩ = some (.int .u32 (X1 : Nat)) ∧ w'.cell? ⟨bb, off + I * 3 + 2, none⟩ = some (.int .u32 (X2 : Nat)) ∧ w'.cell? ⟨bb, off + J * 3, none⟩ = some (.int .u32 (Y0 : Nat)) ∧ w'.cell? ⟨bb, off + J * 3 + 1, none⟩ = some (.int .u32 (Y1 : Nat)) ∧ w'.cell? ⟨bb, off + J * 3 + 2, none⟩ = some (.int .u32 (Y2 : Nat))) (by kernel_rfl) ?_
  have hS0 : (fun w' : World => w'.cell? ⟨bb, off + I * 3, none⟩ = some (.int .u32 (X0 : Nat)) ∧ w'.cell? ⟨bb, off + I * 3 + 1, none⟩ = some (.int .u32 (X1 : Nat)) ∧ w'.cell? ⟨bb, off + I * 3 + 2, none⟩ = some (.int .u32 (X2 : Nat)) ∧ w'.cell? ⟨bb, off + J * 3, none⟩ = some (.int .u32 (Y0 : Nat)) ∧ w'.cell? ⟨bb, off + J * 3 + 1, none⟩ = some (.int .u32 (Y1 : Nat)) ∧ w'.cell? ⟨bb, off + J * 3 + 2, none⟩ = some (.int .u32 (Y2 : Nat))) w1.drew := ⟨u0, u1, u2, v0, v1, v2⟩
  change wpAnyH _ _ _ _ _ _ _ _ (World.drew _)
  refine wpAnyH_take (i := 0) (oi := ⟨some 39, _, _, _, _, _⟩) (v := ?_) rfl (by kernel_rfl) (by kernel_rfl) (by kernel_rfl) (fun _ _ _ h => h) (Or.inl ⟨by rfl, ?_⟩) hS0 ?_
  rotate_left
  · (intro w' hSw; obtain ⟨q0, q1, q2, q3, q4, q5⟩ := hSw; go_simp; try (with_reducible rfl))
  simp only [Act.put, List.setIfInBounds_toArray, List.set_cons_zero, List.set_cons_succ]
  refine wpAnyH_take (i := 1) (oi := ⟨some 40, _, _, _, _, _⟩) (v := ?_) rfl (by kernel_rfl) (by kernel_rfl) (by kernel_rfl) (fun _ _ _ h => h) (Or.inl ⟨by rfl, ?_⟩) hS0 ?_
  rotate_left
  · (intro w' hSw; obtain ⟨q0, q1, q2, q3, q4, q5⟩ := hSw; go_simp; try (with_reducible rfl))
  simp only [Act.put, List.setIfInBounds_toArray, List.set_cons_zero, List.set_cons_succ]
  refine wpAnyH_take (i := 2) (oi := ⟨some 41, _, _, _, _, _⟩) (v := ?_) rfl (by kernel_rfl) (by kernel_rfl) (by kernel_rfl) (fun _ _ _ h => h) (Or.inl ⟨by rfl, ?_⟩) hS0 ?_
  rotate_left
  · (intro w' hSw; obtain ⟨q0, q1, q2, q3, q4, q5⟩ := hSw; go_simp; try (with_reducible rfl))
  simp only [Act.put, List.setIfInBounds_toArray, List.set_cons_zero, List.set_cons_succ]
  refine wpAnyH_take (i := 3) (oi := ⟨some 42, _, _, _, _, _⟩) (v := ?_) rfl (by kernel_rfl) (by kernel_rfl) (by kernel_rfl) (fun _ _ _ h => h) (Or.inl ⟨by rfl, ?_⟩) hS0 ?_
  rotate_left
  · (intro w' hSw; obtain ⟨q0, q1, q2, q3, q4, q5⟩ := hSw; go_simp; try (with_reducible rfl))
  simp only [Act.put, List.setIfInBounds_toArray, List.set_cons_zero, List.set_cons_succ]
  refine wpAnyH_take (i := 4) (oi := ⟨some 43, _, _, _, _, _⟩) (v := ?_) rfl (by kernel_rfl) (by kernel_rfl) (by kernel_rfl) (fun _ _ _ h => h) (Or.inl ⟨by rfl, ?_⟩) hS0 ?_
  rotate_left
  · (intro w' hSw; obtain ⟨q0, q1, q2, q3, q4, q5⟩ := hSw; go_simp; try (with_reducible rfl))
  simp only [Act.put, List.setIfInBounds_toArray, List.set_cons_zero, List.set_cons_succ]
  refine wpAnyH_take (i := 5) (oi := ⟨some 44, _, _, _, _, _⟩) (v := ?_) rfl (by kernel_rfl) (by kernel_rfl) (by kernel_rfl) (fun _ _ _ h => h) (Or.inl ⟨by rfl, ?_⟩) hS0 ?_
  rotate_left
  · (intro w' hSw; obtain ⟨q0, q1, q2, q3, q4, q5⟩ := hSw; go_simp; try (with_reducible rfl))
  simp only [Act.put, List.setIfInBounds_toArray, List.set_cons_zero, List.set_cons_succ]
  refine wpAnyH_take (i := 6) (oi := ⟨some 45, _, _, _, _, _⟩) (v := ?_) rfl (by kernel_rfl) (by kernel_rfl) (by kernel_rfl) (fun _ _ _ h => h) (Or.inl ⟨by rfl, ?_⟩) hS0 ?_
  rotate_left
  · (intro w' hSw; obtain ⟨q0, q1, q2, q3, q4, q5⟩ := hSw; go_simp; try (with_reducible rfl))
  simp only [Act.put, List.setIfInBounds_toArray, List.set_cons_zero, List.set_cons_succ]
  refine wpAnyH_take (i := 7) (oi := ⟨some 46, _, _, _, _, _⟩) (v := ?_) rfl (by kernel_rfl) (by kernel_rfl) (by kernel_rfl) (fun _ _ _ h => h) (Or.inl ⟨by rfl, ?_⟩) hS0 ?_
  rotate_left
  · (intro w' hSw; obtain ⟨q0, q1, q2, q3, q4, q5⟩ := hSw; go_simp; try (with_reducible rfl))
  simp only [Act.put, List.setIfInBounds_toArray, List.set_cons_zero, List.set_cons_succ]
  refine wpAnyH_take (i := 8) (oi := ⟨some 47, _, _, _, _, _⟩) (v := ?_) rfl (by kernel_rfl) (by kernel_rfl) (by kernel_rfl) (fun _ _ _ h => h) (Or.inl ⟨by rfl, ?_⟩) hS0 ?_
  rotate_left
  · (intro w' hSw; obtain ⟨q0, q1, q2, q3, q4, q5⟩ := hSw; go_simp; try (with_reducible rfl))
  simp only [Act.put, List.setIfInBounds_toArray, List.set_cons_zero, List.set_cons_succ]
  refine wpAnyH_take (i := 9) (oi := ⟨some 48, _, _, _, _, _⟩) (v := ?_) rfl (by kernel_rfl) (by kernel_rfl) (by kernel_rfl) (fun _ _ _ h => h) (Or.inl ⟨by rfl, ?_⟩) hS0 ?_
  rotate_left
  · (intro w' hSw; obtain ⟨q0, q1, q2, q3, q4, q5⟩ := hSw; go_simp; try (with_reducible rfl))
  simp only [Act.put, List.setIfInBounds_toArray, List.set_cons_zero, List.set_cons_succ]
  refine wpAnyH_take (i := 10) (oi := ⟨some 49, _, _, _, _, _⟩) (v := ?_) rfl (by kernel_rfl) (by kernel_rfl) (by kernel_rfl) (fun _ _ _ h => h) (Or.inl ⟨by rfl, ?_⟩) hS0 ?_
  rotate_left
  · (intro w' hSw; obtain ⟨q0, q1, q2, q3, q4, q5⟩ := hSw; go_simp; try (with_reducible rfl))
  simp only [Act.put, List.setIfInBounds_toArray, List.set_cons_zero, List.set_cons_succ]
  refine wpAnyH_take (i := 11) (oi := ⟨some 50, _, _, _, _, _⟩) (v := ?_) rfl (by kernel_rfl) (by kernel_rfl) (by kernel_rfl) (fun _ _ _ h => h) (Or.inl ⟨by rfl, ?_⟩) hS0 ?_
  rotate_left
  · (intro w' hSw; obtain ⟨q0, q1, q2, q3, q4, q5⟩ := hSw; go_simp; try (with_reducible rfl))
  simp only [Act.put, List.setIfInBounds_toArray, List.set_cons_zero, List.set_cons_succ]
  refine wpAnyH_take (i := 12) (oi := ⟨some 51, _, _, _, _, _⟩) (v := ?_) rfl (by kernel_rfl) (by kernel_rfl) (by kernel_rfl) (fun _ _ _ h => h) (Or.inl ⟨by rfl, ?_⟩) hS0 ?_
  rotate_left
  · (intro w' hSw; obtain ⟨q0, q1, q2, q3, q4, q5⟩ := hSw; go_simp; try (with_reducible rfl))
  simp only [Act.put, List.setIfInBounds_toArray, List.set_cons_zero, List.set_cons_succ]
  refine wpAnyH_all (rs := [13]) (by kernel_rfl) (by simp) ?_
  intro i hi
  rw [List.mem_singleton] at hi
  subst hi
  refine wpOp_runG (o := ⟨none, _, _, _, _, _⟩) rfl rfl fun K' hK => ?_
  refine wp_store_mid _ _ _ rfl b1 (I * 3) #[.int .u32 (Y0 : Nat), .int .u32 (Y1 : Nat), .int .u32 (Y2 : Nat)] rfl rfl Hth.out (by kernel_rfl) (by simp [Value.oneCell']) ?_
  refine hK _ _ ⟨⟨(Hn1.out w1.drew _ _ _ hz1).trans u0, (Hn1.out w1.drew _ _ _ hz1).trans u1, (Hn1.out w1.drew _ _ _ hz1).trans u2, (Hn1.out w1.drew _ _ _ hz1).trans v0, (Hn1.out w1.drew _ _ _ hz1).trans v1, (Hn1.out w1.drew _ _ _ hz1).trans v2⟩, ?_⟩
  clear hK K'
  try simp only [Act.put, List.setIfInBounds_toArray, List.set_cons_zero, List.set_cons_succ]
  have hS0' : (fun w' : World => w'.cell? ⟨bb, off + I * 3, none⟩ = some (.int .u32 (X0 : Nat)) ∧ w'.cell? ⟨bb, off + I * 3 + 1, none⟩ = some (.int .u32 (X1 : Nat)) ∧ w'.cell? ⟨bb, off + I * 3 + 2, none⟩ = some (.int .u32 (X2 : Nat)) ∧ w'.cell? ⟨bb, off + J * 3, none⟩ = some (.int .u32 (Y0 : Nat)) ∧ w'.cell? ⟨bb, off + J * 3 + 1, none⟩ = some (.int .u32 (Y1 : Nat)) ∧ w'.cell? ⟨bb, off + J * 3 + 2, none⟩ = some (.int .u32 (Y2 : Nat))) (w1.drew.setCells b1 (I * 3) [.int .u32 (Y0 : Nat), .int .u32 (Y1 : Nat), .int .u32 (Y2 : Nat)]) := ⟨(Hn1.out w1.drew _ _ _ hz1).trans u0, (Hn1.out w1.drew _ _ _ hz1).trans u1, (Hn1.out w1.drew _ _ _ hz1).trans u2, (Hn1.out w1.drew _ _ _ hz1).trans v0, (Hn1.out w1.drew _ _ _ hz1).trans v1, (Hn1.out w1.drew _ _ _ hz1).trans v2⟩
  clear hS0
  have hS0 := hS0'
  clear hS0'
  obtain ⟨w2, hw2⟩ : ∃ w2, w1.drew.setCells b1 (I * 3) [.int .u32 (Y0 : Nat), .int .u32 (Y1 : Nat), .int .u32 (Y2 : Nat)] = w2 := ⟨_, rfl⟩
  have hz2 : w.heap.size ≤ w2.heap.size := by rw [← hw2]; exact Nat.le_trans hz1 (only_setCells b1 _ _ w1.drew).size
  rw [hw2] at hS0 Hth2 HOX
  change wpAnyH _ _ _ _ _ _ _ _ (World.setCells w1.drew b1 (I * 3) [.int .u32 (Y0 : Nat), .int .u32 (Y1 : Nat), .int .u32 (Y2 : Nat)])
  rw [hw2]
  obtain ⟨s0, s1, s2, s3, s4, s5⟩ := id hS0
  refine wpAnyH_take (i := 14) (oi := ⟨some 52, _, _, _, _, _⟩) (v := ?_) rfl (by kernel_rfl) (by kernel_rfl) (by kernel_rfl) (fun _ _ _ h => h) (Or.inl ⟨by rfl, ?_⟩) hS0 ?_
  rotate_left
  · (intro w' hSw; obtain ⟨q0, q1, q2, q3, q4, q5⟩ := hSw; go_simp; try (with_reducible rfl))
  simp only [Act.put, List.setIfInBounds_toArray, List.set_cons_zero, List.set_cons_succ]
  refine wpAnyH_all (rs := [15]) (by kernel_rfl) (by simp) ?_
  intro i hi
  rw [List.mem_singleton] at hi
  subst hi
  refine wpOp_runG (o := ⟨none, _, _, _, _, _⟩) rfl rfl fun K' hK => ?_
  refine wp_store_mid _ _ _ rfl b1 (J * 3) #[.int .u32 (X0 : Nat), .int .u32 (X1 : Nat), .int .u32 (X2 : Nat)] rfl rfl Hth2.out (by kernel_rfl) (by simp [Value.oneCell']) ?_
  refine hK _ _ ⟨⟨(Hn1.out w2 _ _ _ hz2).trans s0, (Hn1.out w2 _ _ _ hz2).trans s1, (Hn1.out w2 _ _ _ hz2).trans s2, (Hn1.out w2 _ _ _ hz2).trans s3, (Hn1.out w2 _ _ _ hz2).trans s4, (Hn1.out w2 _ _ _ hz2).trans s5⟩, ?_⟩
  clear hK K'
  try simp only [Act.put, List.setIfInBounds_toArray, List.set_cons_zero, List.set_cons_succ]
  refine wpAnyH_done (by kernel_rfl) ?_ _
  change Exit.then _ _ _ _ (World.setCells w2 b1 (J * 3) [.int .u32 (X0 : Nat), .int .u32 (X1 : Nat), .int .u32 (X2 : Nat)])
  obtain ⟨w3, hw3⟩ : ∃ w3, w2.setCells b1 (J * 3) [.int .u32 (X0 : Nat), .int .u32 (X1 : Nat), .int .u32 (X2 : Nat)] = w3 := ⟨_, rfl⟩
  rw [hw3] at HOX ⊢
  have B3 : Hid (Below w.heap.size w w3) := by
    have o2 : Only (fun k => k = b1) w1.drew w2 := by rw [← hw2]; exact only_setCells b1 _ _ w1.drew
    have o3 : Only (fun k => k = b1) w2 w3 := by rw [← hw3]; exact only_setCells b1 _ _ w2
    exact B1.out.trans ((ext_drew w1).mono hz1 |>.trans ((o2.trans o3 (fun _ _ h => h)).below hz1 (fun k hk e => by omega)))
  have hm : (l.set I (Y0, Y1, Y2)).set J (X0, X1, X2) = (l.set I l[J]).set J l[I] := by rw [HX.out.1, HX.out.2]
  have hperm : ((l.set I l[J]).set J l[I]).Perm l := List.set_set_perm hI hJ
  have hml : ((l.set I l[J]).set J l[I]).length = l.length := by simp
  have hok := Hok.out
  have hof : ofM ((l.set I l[J]).set J l[I]) = ofM l := ofM_perm hperm (fun x hx => hok x (hperm.mem_iff.1 hx))
  rw [hm] at HOX
  have HG1 := Lib.hid (fun W (h : Below w.heap.size w W) => gof_any l (some ⟨bb, off, none⟩) ca fp W (by omega) hok (Hrd.out.ext h))
  have HG2 := Lib.hid (fun W (h : Below w3.heap.size w3 W) => gof_any ((l.set I l[J]).set J l[I]) (some ⟨b1, 0, none⟩) cap1 _ W (by omega) (fun x hx => hok x (hperm.mem_iff.1 hx)) (HOX.out.rd.ext h))
  rw [hof, hml] at HG2
  have hF := ofM_fit0 hok (by omega)
  generalize ofM l = r at *
  obtain ⟨R, er⟩ := r
  simp only at hF
  have e2 : ((er : Int) == (er : Int)) = true := beq_self_eq_true _
  have e2' : (er == er) = true := beq_self_eq_true _
  clear hS0 s0 s1 s2 s3 s4 s5 u0 u1 u2 v0 v1 v2 Hth Hth2 HOX Hn1 hw2 hw3 hm hperm hml hof hok
  have HL := Lib.hid (fun p (f : Nat → Prop) W h => glen_any p R f W h)
  have HRw := Lib.hid (fun p (f : Nat → Prop) W h hs => lrows_any p R f W hF.len hF.rows h hs)
  have HS14 := Lib.hid (fun a b ca cb fa fb W ha hb => same14_any R a b ca cb fa fb W (by have := hF.len; omega) (fun r hr => by have := hF.arcs r hr; omega) ha hb)
  clear hF
  go_wp2_with (first
    | (go_at_call 24; (with_reducible refine (HG1.out _ B3.out).mono ?_); rintro e w4 ⟨p4, rfl, _, _, h4, hx⟩; have P4 := Lib.hid (h4.mono (fun b _ hl => hl)); have E4 := Lib.hid hx; have B4 := Lib.hid (B3.out.trans (hx.mono B3.out.size)); clear h4 hx)
    | (go_at_call 24; (with_reducible refine (HG2.out _ E4.out).mono ?_); rintro e w5 ⟨p5, rfl, _, _, h5, hx⟩; have Q5 := Lib.hid (h5.mono (fun b _ hl => hl)); have P5 := Lib.hid (P4.out.ext hx); have Z5 := Lib.hid hx.size; have B5 := Lib.hid (B4.out.trans (hx.mono B4.out.size)); clear h5 hx)
    | (go_at_call 26; (with_reducible refine (HRw.out _ _ _ P5.out (fun b hb => Nat.lt_of_lt_of_le hb Z5.out)).mono ?_); rintro e w6 ⟨a6, c6, g6, f6, rfl, h6, _, _, hx⟩; have S6 := Lib.hid h6.rd; have Z6 := Lib.hid hx.size; have P6 := Lib.hid (P5.out.ext hx); have Q6 := Lib.hid (Q5.out.ext hx); have B6 := Lib.hid (B5.out.trans (hx.mono B5.out.size)); clear h6 hx)
    | (go_at_call 26; (with_reducible refine (HRw.out _ _ _ Q6.out (fun b hb => Nat.lt_of_lt_of_le hb Z6.out)).mono ?_); rintro e w7 ⟨a7, c7, g7, f7, rfl, h7, _, _, hx⟩; have S7 := Lib.hid h7.rd; have T7 := Lib.hid (S6.out.ext hx); have P7 := Lib.hid (P6.out.ext hx); have Q7 := Lib.hid (Q6.out.ext hx); have B7 := Lib.hid (B6.out.trans (hx.mono B6.out.size)); clear h7 hx)
    | (go_at_call 25; (with_reducible refine (HS14.out _ _ _ _ _ _ _ T7.out S7.out).mono ?_); rintro e w8 ⟨rfl, hx⟩; have P8 := Lib.hid (P7.out.ext hx); have Q8 := Lib.hid (Q7.out.ext hx); have B8 := Lib.hid (B7.out.trans (hx.mono B7.out.size)); clear hx)
    | (go_at_call 27; (with_reducible refine (HL.out _ _ _ P8.out).mono ?_); rintro e w9 ⟨rfl, hw9⟩; obtain rfl : w8 = w9 := hw9.symm; clear hw9)
    | (go_at_call 27; (with_reducible refine (HL.out _ _ _ Q8.out).mono ?_); rintro e w9 ⟨rfl, hw9⟩; obtain rfl : w8 = w9 := hw9.symm; clear hw9)
    | (go_at_call 23; (with_reducible refine (HA.out _).mono ?_); rintro e w10 ⟨rfl, hx⟩; have B10 := Lib.hid (B8.out.trans (hx.mono B8.out.size)); clear hx))
  go_ret
  exact ⟨rfl, B10.out⟩
end Go.Proofs.Ytlgnpogmgpgdaaa
