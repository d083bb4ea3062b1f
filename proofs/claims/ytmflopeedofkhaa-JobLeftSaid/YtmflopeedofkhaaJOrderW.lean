/- JobOrder: the walk. -/
import Derived.Test.YtmflopeedofkhaaJTwiceW
import Derived.Test.YtmflopeedofkhaaByAwk
namespace Go.Proofs.Ytmflopeedofkhaa
set_option linter.unusedSimpArgs false
set_option linter.unusedVariables false
set_option maxRecDepth 100000
open Go.RowKit

theorem own_set19 {w : World} {b cap : Nat} {e : TypeId} {n : Nat} {xs : List Value} (h : Own w (some ⟨b, 0, none⟩) cap (some b) e 1 n xs) {i : Nat} (hi : i < n) (v : Value) : Own (w.setCell ⟨b, i, none⟩ v) (some ⟨b, 0, none⟩) cap (some b) e 1 n (xs.set i v) := by
  obtain ⟨h1, h2⟩ := h
  refine ⟨by simpa using h1, ?_⟩
  rcases h2 with ⟨h2, _⟩ | ⟨b', cur, hg, ha, hh, hn, hc, hs, ht⟩
  · cases h2
  · cases hg
    refine .inr ⟨b, cur.setIfInBounds i v, rfl, rfl, row_set19 hh i v, hn, hc, by simpa using hs, ?_⟩
    rw [← ht, Array.toList_setIfInBounds, List.take_set]
theorem strCells_set (L : List W8) (i : Nat) (x : W8) : (strCells L).set i (.string (bs x)) = strCells (L.set i x) := by
  unfold strCells
  rw [List.map_set]
theorem fl_len {α : Type} (f : α → W8) (c : Nat) : ∀ l : List α, (∀ x ∈ l, (f x).length ≤ c) → (l.flatMap f).length ≤ l.length * c
  | [], _ => by simp
  | x :: r, h => by
    have h1 := h x (by simp)
    have h2 := fl_len f c r (fun y hy => h y (by simp [hy]))
    rw [List.flatMap_cons, List.length_append, List.length_cons, Nat.succ_mul]
    omega
theorem swap_mem {L : List W8} {i k : Nat} (hi : i < L.length) (hk : k < L.length) : ∀ x ∈ swapL L i k, x ∈ L := fun x hx => by
  unfold swapL at hx
  rw [getElem!_pos L k hk, getElem!_pos L i hi] at hx
  rcases List.mem_or_eq_of_mem_set hx with h | h
  · rcases List.mem_or_eq_of_mem_set h with h | h
    · exact h
    · rw [h]; exact List.getElem_mem hk
  · rw [h]; exact List.getElem_mem hi
def orI (M : List W8) (w6 : World) (v i : Value) (wr : World) : Prop := ∃ a : Nat, a ≤ M.length ∧ i = .int .i64 (a : Nat) ∧ v = .string (bs ((M.take a).flatMap (fun l => l ++ [10]))) ∧ wr = w6
set_option maxRecDepth 100000 in
set_option maxHeartbeats 6400000 in
theorem jobOrder_walk (j : JobD) (ok : JobOk j) (ao : Option Addr) (cap a b : Nat) (ha : a < 256) (hb : b < 256) (w : World) (hr : Rd w ao j.src.length (u32s j.src)) :
    Calls Try.prog 4 #[.agg (jobCs j ao cap), .int .u8 (a : Nat), .int .u8 (b : Nat)] w (RetB (.bool true) w) := by
  obtain ⟨W0, hW0⟩ : ∃ W0, w.alloc (.cells (jobCs j ao cap) 30) = W0 := ⟨_, rfl⟩
  have B0 := Lib.hid (show Below w.heap.size w W0 by rw [← hW0]; exact ext_alloc w _)
  have R0 := Lib.hid (show W0.heap[w.heap.size]? = some (.cells (jobCs j ao cap) 30 (0, 0)) by rw [← hW0]; exact heap_alloc_new _ _)
  have HS0 := Lib.hid (hr.ext B0.out)
  have HMy := Lib.hid (fun W (hB : Below W0.heap.size W0 W) => rmay_any j ok ao cap W)
  have HA := Lib.hid (fun W => awake19_any W)
  have HW0 := Lib.hid hW0
  have HIj := Lib.hid (jb_info19 j ao cap)
  obtain ⟨jb, hjb⟩ : ∃ jb, jb = w.heap.size := ⟨_, rfl⟩
  have Hjb := Lib.hid hjb
  rw [← hjb] at R0
  have c4 : W0.cell? ⟨jb, 4, none⟩ = some (.slice ao j.src.length cap) := (cell_of_row _ _ _ _ _ _ R0.out).trans rfl
  clear hW0 hjb
  by_cases h1 : 100 < j.src.length
  · have d1 : decide ((100 : Int) < (j.src.length : Int)) = true := decide_eq_true (by omega)
    have d1' : decide (100 < j.src.length) = true := decide_eq_true h1
    generalize j.src.length = n at c4 d1 d1'
    clear h1 hr
    generalize jobCs j ao cap = jc at HW0 R0 HIj ⊢
    go_enter Try.func4, Try.ntmps4
    go_upto_region 1 with fail
    rw [HW0.out, ← Hjb.out]
    go_wp2_with (first
      | (refine wpList_load_rowg rfl 30 _ rfl jb rfl 30 _ (0, 0) _ R0.out Try.underlying30 rfl HIj.out ?_)
      | fail "no"
      | (go_at_call 8; (with_reducible refine (HA.out _).mono ?_); rintro e w8 ⟨rfl, hx⟩; have B8 := Lib.hid hx; clear hx))
    go_ret
    exact ⟨rfl, B0.out.trans (B8.out.mono B0.out.size)⟩
  have d1 : decide ((100 : Int) < (j.src.length : Int)) = false := decide_eq_false (by omega)
  have d1' : decide (100 < j.src.length) = false := decide_eq_false h1
  have HM := Lib.hid (fun W (hB : Below W0.heap.size W0 W) => HMy.out W hB (by omega) (HS0.out.ext hB))
  by_cases hm : mayJ j = true
  case neg =>
    rw [show mayJ j = false by simpa using hm] at HM
    generalize j.src.length = n at c4 d1 d1'
    clear h1 hr hm HMy
    generalize jobCs j ao cap = jc at *
    go_enter Try.func4, Try.ntmps4
    go_upto_region 1 with fail
    rw [HW0.out, ← Hjb.out]
    go_wp2_with (first
      | (refine wpList_load_rowg rfl 30 _ rfl jb rfl 30 _ (0, 0) _ R0.out Try.underlying30 rfl HIj.out ?_)
      | (go_at_call 13; (with_reducible refine (HM.out _ (Below.refl _ _)).mono ?_); rintro e w7 ⟨rfl, hx⟩; have B7 := Lib.hid (B0.out.trans (hx.mono B0.out.size)); clear hx)
      | (go_at_call 8; (with_reducible refine (HA.out _).mono ?_); rintro e w8 ⟨rfl, hx⟩; have B8 := Lib.hid hx; clear hx))
    go_ret
    exact ⟨rfl, B7.out.trans (B8.out.mono B7.out.size)⟩
  rw [hm] at HM
  have hk3 := (may_inB ok hm).1
  have HPr := Lib.hid (fun W (hB : Below W0.heap.size W0 W) => rprint19_any j ok hk3 (by omega) ao cap W (HS0.out.ext hB))
  have HSm := Lib.hid (fun so sc W (hB : Below W0.heap.size W0 W) (h : Rd W so j.src.length (u32s j.src)) => rsame19_any j (by omega) so ao sc cap W h (HS0.out.ext hB))
  have hpl := printJ_len j ok hk3
  have hll := lines_lenJ j
  have hpl1 := print_lines ok hm []
  rw [List.append_nil, lines_nil, List.append_nil] at hpl1
  obtain ⟨i, hi⟩ : ∃ i, a % 12 = i := ⟨_, rfl⟩
  obtain ⟨k, hk⟩ : ∃ k, b % 12 = k := ⟨_, rfl⟩
  have hi12 : i < 12 := by omega
  have hk12 : k < 12 := by omega
  have hRT := read_order ok hm hi12 hk12
  have HLl := Lib.hid (show ∀ l ∈ linesJ j, l.length ≤ (printJ j).length from fun l hl => by rw [← hpl1] at hl; exact lines_mem19 _ l hl)
  generalize printJ j = P at *
  obtain ⟨L, hL⟩ : ∃ L, linesJ j = L := ⟨_, rfl⟩
  rw [hL] at hll hpl1 hRT HLl
  have HLn := Lib.hid (fun ao cap W (h : Rd W ao P.length (byteVals P)) => (show Calls Try.prog 14 #[.slice ao P.length cap] W (RetOwn 9 1 L.length (strCells L) W) from by rw [← hpl1]; exact rlines_any P (by omega) ao cap W h))
  have HCv1 := Lib.hid (fun W => conv_sb19 P (by omega) W)
  have htm1 : (a : Int).tmod 12 = (i : Int) := by rw [← hi]; exact tmod_nat a 12
  have htm2 : (b : Int).tmod 12 = (k : Int) := by rw [← hk]; exact tmod_nat b 12
  have hiL : i < L.length := by omega
  have hkL : k < L.length := by omega
  obtain ⟨M, hM⟩ : ∃ M, swapL L i k = M := ⟨_, rfl⟩
  have hMl : ∀ x ∈ M, x.length ≤ 7800 := fun x hx => by
    rw [← hM] at hx
    have := HLl.out x (swap_mem hiL hkL x hx)
    omega
  have hML : M.length = L.length := by rw [← hM]; unfold swapL; simp
  rw [hM] at hRT
  have hTl := fl_len (fun l => l ++ [10]) 7801 M (fun x hx => by have := hMl x hx; simp; omega)
  have hT1 : (M.flatMap (fun l => l ++ [10])).length ≤ 1000000 := by
    have : M.length * 7801 ≤ 112 * 7801 := Nat.mul_le_mul_right _ (by omega)
    omega
  have HRd := Lib.hid (fun ao cap W h hc hm => (show Calls Try.prog 9 #[.slice ao (M.flatMap (fun l => l ++ [10])).length cap] W (ReadRet (j, 0, 0) W) from hRT ▸ jread_any (M.flatMap (fun l => l ++ [10])) hT1 ao cap W h hc hm))
  have HCv2 := Lib.hid (fun W => conv_sb19 (M.flatMap (fun l => l ++ [10])) (by omega) W)
  have HTa := Lib.hid (show ∀ q, ((M.take q).flatMap (fun l => l ++ [10])).length ≤ 1000000 from fun q => by
    have h1 := fl_len (fun l => l ++ [10]) 7801 (M.take q) (fun x hx => by have := hMl x (List.mem_of_mem_take hx); simp; omega)
    have : (M.take q).length * 7801 ≤ 112 * 7801 := Nat.mul_le_mul_right _ (by rw [List.length_take]; omega)
    omega)
  have HMl := Lib.hid hMl
  have HLi := Lib.hid (And.intro hM (And.intro hiL hkL))
  have HML := Lib.hid hML
  have hL12 : 12 ≤ L.length ∧ L.length ≤ 112 := by omega
  generalize j.src.length = n at c4 d1 d1'
  clear hRT HLl hpl hpl1 hL hll hr hm HMy h1 hk3 hi hk hTl hT1 hM hMl
  generalize jobCs j ao cap = jc at *
  have ua : IntKind.i64.wrap (a : Int) = (a : Int) := IntWalk.i64_in _ (by omega)
  have ub : IntKind.i64.wrap (b : Int) = (b : Int) := IntWalk.i64_in _ (by omega)
  have ui : IntKind.i64.wrap (i : Int) = (i : Int) := IntWalk.i64_in _ (by omega)
  have uk : IntKind.i64.wrap (k : Int) = (k : Int) := IntWalk.i64_in _ (by omega)
  have hir : (i : Int) < (L.length : Int) := by omega
  have hkr : (k : Int) < (L.length : Int) := by omega
  go_enter Try.func4, Try.ntmps4
  go_upto_region 1 with fail
  rw [HW0.out, ← Hjb.out]
  go_upto_region 3 with (first
    | (refine wpList_load_rowg rfl 30 _ rfl jb rfl 30 _ (0, 0) _ R0.out Try.underlying30 rfl HIj.out ?_)
    | (go_at_call 13; (with_reducible refine (HM.out _ (Below.refl _ _)).mono ?_); rintro e w1 ⟨rfl, hx⟩; have R1 := Lib.hid ((hx.block _ (blk_lt R0.out)).trans R0.out); have B1 := Lib.hid hx; clear hx))
  go_upto_region 4 with (first
    | (refine wpList_load_row rfl 30 _ rfl jb rfl 30 _ (0, 0) _ R1.out Try.underlying30 rfl HIj.out ?_)
    | (go_at_call 15; (with_reducible refine (HPr.out _ B1.out).mono ?_); rintro e w2 ⟨rfl, hx⟩; have B2 := Lib.hid (B1.out.trans (hx.mono B1.out.size)); obtain ⟨cp3, w3, hcv1, hB3, hr3, hc3, hm3⟩ := HCv1.out w2; have B3 := Lib.hid (B2.out.trans (hB3.mono B2.out.size)); have Hr3 := Lib.hid hr3; clear hB3 hr3 hc3 hm3 hx)
    | (go_at_call 14; (with_reducible refine (HLn.out _ _ _ Hr3.out).mono ?_); rintro e w4 ⟨la, lc, lg, rfl, hx, hy, hz⟩; have Lo := Lib.hid hx; have Lg := Lib.hid hy; have B4 := Lib.hid (B3.out.trans (hz.mono B3.out.size)); clear hx hy hz))
  obtain ⟨lb, rfl, rfl, hlb⟩ : ∃ b, la = some ⟨b, 0, none⟩ ∧ lg = some b ∧ b < w4.heap.size := by
    obtain ⟨b, h1, h2, h3⟩ := Lo.out.pos (by omega)
    exact ⟨b, h2, h1, h3⟩
  have hlg : w3.heap.size ≤ lb := Lg.out lb rfl
  obtain ⟨xi, hxi⟩ : ∃ x, L[i] = x := ⟨_, rfl⟩
  obtain ⟨xk, hxk⟩ : ∃ x, L[k] = x := ⟨_, rfl⟩
  have ci : w4.cell? ⟨lb, i, none⟩ = some (.string (bs xi)) := by
    rw [Lo.out.cell i (by omega), ← hxi]
    simp only [strCells, List.getElem?_map, List.getElem?_eq_getElem hiL, Option.map_some]
  have ck : w4.cell? ⟨lb, k, none⟩ = some (.string (bs xk)) := by
    rw [Lo.out.cell k (by omega), ← hxk]
    simp only [strCells, List.getElem?_map, List.getElem?_eq_getElem hkL, Option.map_some]
  have fi := Lo.out.frozen i
  have fk := Lo.out.frozen k
  have HOw := Lib.hid (show Own (((w4.setCell ⟨lb, i, none⟩ (.string (bs xk))).setCell ⟨lb, k, none⟩ (.string (bs xi))).drew) (some ⟨lb, 0, none⟩) lc (some lb) 9 1 L.length (strCells M) by
    have h1 := (own_set19 (own_set19 Lo.out hiL (.string (bs xk))) hkL (.string (bs xi))).ext (ext_drew _)
    rw [strCells_set, strCells_set] at h1
    rw [← HLi.out.1]
    unfold swapL
    rw [getElem!_pos L k hkL, getElem!_pos L i hiL, hxk, hxi]
    exact h1)
  have B6 := Lib.hid (show Below W0.heap.size W0 (((w4.setCell ⟨lb, i, none⟩ (.string (bs xk))).setCell ⟨lb, k, none⟩ (.string (bs xi))).drew) from
    ((B4.out.setCell (p := ⟨lb, i, none⟩) (by have := B3.out.size; show W0.heap.size ≤ lb; omega) _).setCell (p := ⟨lb, k, none⟩) (by have := B3.out.size; show W0.heap.size ≤ lb; omega) _).trans ((ext_drew _).mono (by have := B4.out.size; simp; omega)))
  clear hxi hxk hlg hlb
  go_upto_region 5 with fail
  go_cut [8] (fun v wx => v = .int .i64 (i : Nat) ∧ wx = ((w4.setCell ⟨lb, i, none⟩ (.string (bs xk))).setCell ⟨lb, k, none⟩ (.string (bs xi))).drew)
  case first =>
    refine wp_region_held (S := fun _ => True) (by kernel_rfl) ?_
    have hS0 : True := trivial
    change wpAnyH _ _ _ _ _ _ _ _ (World.drew _)
    refine wpAnyH_take (i := 0) (oi := ⟨some 35, _, _, _, _, _⟩) (v := ?_) rfl (by kernel_rfl) (by kernel_rfl) (by kernel_rfl) (fun _ _ _ h => h) (Or.inl ⟨by rfl, ?_⟩) hS0 ?_
    rotate_left
    · (intro w' hSw; clear hSw; go_simp; try (with_reducible rfl))
    simp only [Act.put, List.setIfInBounds_toArray, List.set_cons_zero, List.set_cons_succ]
    refine wpAnyH_take (i := 1) (oi := ⟨some 36, _, _, _, _, _⟩) (v := ?_) rfl (by kernel_rfl) (by kernel_rfl) (by kernel_rfl) (fun _ _ _ h => h) (Or.inl ⟨by rfl, ?_⟩) hS0 ?_
    rotate_left
    · (intro w' hSw; clear hSw; go_simp; try (with_reducible rfl))
    simp only [Act.put, List.setIfInBounds_toArray, List.set_cons_zero, List.set_cons_succ]
    refine wpAnyH_take (i := 2) (oi := ⟨some 37, _, _, _, _, _⟩) (v := ?_) rfl (by kernel_rfl) (by kernel_rfl) (by kernel_rfl) (fun _ _ _ h => h) (Or.inl ⟨by rfl, ?_⟩) hS0 ?_
    rotate_left
    · (intro w' hSw; clear hSw; go_simp; try (with_reducible rfl))
    simp only [Act.put, List.setIfInBounds_toArray, List.set_cons_zero, List.set_cons_succ]
    refine wpAnyH_take (i := 3) (oi := ⟨some 38, _, _, _, _, _⟩) (v := ?_) rfl (by kernel_rfl) (by kernel_rfl) (by kernel_rfl) (fun _ _ _ h => h) (Or.inl ⟨by rfl, ?_⟩) hS0 ?_
    rotate_left
    · (intro w' hSw; clear hSw; go_simp; try (with_reducible rfl))
    simp only [Act.put, List.setIfInBounds_toArray, List.set_cons_zero, List.set_cons_succ]
    refine wpAnyH_take (i := 4) (oi := ⟨some 39, _, _, _, _, _⟩) (v := ?_) rfl (by kernel_rfl) (by kernel_rfl) (by kernel_rfl) (fun _ _ _ h => h) (Or.inl ⟨by rfl, ?_⟩) hS0 ?_
    rotate_left
    · (intro w' hSw; clear hSw; go_simp; try (with_reducible rfl))
    simp only [Act.put, List.setIfInBounds_toArray, List.set_cons_zero, List.set_cons_succ]
    refine wpAnyH_take (i := 5) (oi := ⟨some 40, _, _, _, _, _⟩) (v := ?_) rfl (by kernel_rfl) (by kernel_rfl) (by kernel_rfl) (fun _ _ _ h => h) (Or.inl ⟨by rfl, ?_⟩) hS0 ?_
    rotate_left
    · (intro w' hSw; clear hSw; go_simp; try (with_reducible rfl))
    simp only [Act.put, List.setIfInBounds_toArray, List.set_cons_zero, List.set_cons_succ]
    refine wpAnyH_take (i := 6) (oi := ⟨some 41, _, _, _, _, _⟩) (v := ?_) rfl (by kernel_rfl) (by kernel_rfl) (by kernel_rfl) (fun _ _ _ h => h) (Or.inl ⟨by rfl, ?_⟩) hS0 ?_
    rotate_left
    · (intro w' hSw; clear hSw; go_simp; try (with_reducible rfl))
    simp only [Act.put, List.setIfInBounds_toArray, List.set_cons_zero, List.set_cons_succ]
    refine wpAnyH_take (i := 8) (oi := ⟨some 43, _, _, _, _, _⟩) (v := ?_) rfl (by kernel_rfl) (by kernel_rfl) (by kernel_rfl) (fun _ _ _ h => h) (Or.inl ⟨by rfl, ?_⟩) hS0 ?_
    rotate_left
    · (intro w' hSw; clear hSw; go_simp; try (with_reducible rfl))
    simp only [Act.put, List.setIfInBounds_toArray, List.set_cons_zero, List.set_cons_succ]
    refine wpAnyH_take (i := 9) (oi := ⟨some 44, _, _, _, _, _⟩) (v := ?_) rfl (by kernel_rfl) (by kernel_rfl) (by kernel_rfl) (fun _ _ _ h => h) (Or.inl ⟨by rfl, ?_⟩) hS0 ?_
    rotate_left
    · (intro w' hSw; clear hSw; go_simp; try (with_reducible rfl))
    simp only [Act.put, List.setIfInBounds_toArray, List.set_cons_zero, List.set_cons_succ]
    refine wpAnyH_take (i := 10) (oi := ⟨some 45, _, _, _, _, _⟩) (v := ?_) rfl (by kernel_rfl) (by kernel_rfl) (by kernel_rfl) (fun _ _ _ h => h) (Or.inl ⟨by rfl, ?_⟩) hS0 ?_
    rotate_left
    · (intro w' hSw; clear hSw; go_simp; try (with_reducible rfl))
    simp only [Act.put, List.setIfInBounds_toArray, List.set_cons_zero, List.set_cons_succ]
    refine wpAnyH_all (rs := [7, 11]) (by kernel_rfl) (by simp) ?_
    intro q hq
    simp only [List.mem_cons, List.not_mem_nil, or_false] at hq
    rcases hq with rfl | rfl
    · refine wpOp_runG (o := ⟨some 42, _, _, _, _, _⟩) rfl rfl fun K' hK => ?_
      go_simp
      refine hK _ _ ⟨trivial, ?_⟩
      clear hK K'
      try simp only [Act.put, List.setIfInBounds_toArray, List.set_cons_zero, List.set_cons_succ]
      refine wpAnyH_all (rs := [11]) (by kernel_rfl) (by simp) ?_
      intro i hi
      rw [List.mem_singleton] at hi
      subst hi
      refine wpOp_runG (o := ⟨some 46, _, _, _, _, _⟩) rfl rfl fun K' hK => ?_
      go_simp
      refine hK _ _ ⟨trivial, ?_⟩
      clear hK K'
      try simp only [Act.put, List.setIfInBounds_toArray, List.set_cons_zero, List.set_cons_succ]
      refine wpAnyH_take (i := 12) (oi := ⟨some 47, _, _, _, _, _⟩) (v := ?_) rfl (by kernel_rfl) (by kernel_rfl) (by kernel_rfl) (fun _ _ _ h => h) (Or.inl ⟨by rfl, ?_⟩) hS0 ?_
      rotate_left
      · (intro w' hSw; clear hSw; go_simp; try (with_reducible rfl))
      simp only [Act.put, List.setIfInBounds_toArray, List.set_cons_zero, List.set_cons_succ]
      refine wpAnyH_all (rs := [13]) (by kernel_rfl) (by simp) ?_
      intro i hi
      rw [List.mem_singleton] at hi
      subst hi
      refine wpOp_runG (o := ⟨none, _, _, _, _, _⟩) rfl rfl fun K' hK => ?_
      go_simp
      refine hK _ _ ⟨trivial, ?_⟩
      clear hK K'
      try simp only [Act.put, List.setIfInBounds_toArray, List.set_cons_zero, List.set_cons_succ]
      refine wpAnyH_take (i := 14) (oi := ⟨some 48, _, _, _, _, _⟩) (v := ?_) rfl (by kernel_rfl) (by kernel_rfl) (by kernel_rfl) (fun _ _ _ h => h) (Or.inl ⟨by rfl, ?_⟩) hS0 ?_
      rotate_left
      · (intro w' hSw; clear hSw; go_simp; try (with_reducible rfl))
      simp only [Act.put, List.setIfInBounds_toArray, List.set_cons_zero, List.set_cons_succ]
      refine wpAnyH_all (rs := [15]) (by kernel_rfl) (by simp) ?_
      intro i hi
      rw [List.mem_singleton] at hi
      subst hi
      refine wpOp_runG (o := ⟨none, _, _, _, _, _⟩) rfl rfl fun K' hK => ?_
      go_simp
      refine hK _ _ ⟨trivial, ?_⟩
      clear hK K'
      try simp only [Act.put, List.setIfInBounds_toArray, List.set_cons_zero, List.set_cons_succ]
      refine wpAnyH_done (by kernel_rfl) ?_ _
      go_wp2_with fail
      go_meet
      exact ⟨rfl, rfl⟩
    · refine wpOp_runG (o := ⟨some 46, _, _, _, _, _⟩) rfl rfl fun K' hK => ?_
      go_simp
      refine hK _ _ ⟨trivial, ?_⟩
      clear hK K'
      try simp only [Act.put, List.setIfInBounds_toArray, List.set_cons_zero, List.set_cons_succ]
      refine wpAnyH_all (rs := [7]) (by kernel_rfl) (by simp) ?_
      intro i hi
      rw [List.mem_singleton] at hi
      subst hi
      refine wpOp_runG (o := ⟨some 42, _, _, _, _, _⟩) rfl rfl fun K' hK => ?_
      go_simp
      refine hK _ _ ⟨trivial, ?_⟩
      clear hK K'
      try simp only [Act.put, List.setIfInBounds_toArray, List.set_cons_zero, List.set_cons_succ]
      refine wpAnyH_take (i := 12) (oi := ⟨some 47, _, _, _, _, _⟩) (v := ?_) rfl (by kernel_rfl) (by kernel_rfl) (by kernel_rfl) (fun _ _ _ h => h) (Or.inl ⟨by rfl, ?_⟩) hS0 ?_
      rotate_left
      · (intro w' hSw; clear hSw; go_simp; try (with_reducible rfl))
      simp only [Act.put, List.setIfInBounds_toArray, List.set_cons_zero, List.set_cons_succ]
      refine wpAnyH_all (rs := [13]) (by kernel_rfl) (by simp) ?_
      intro i hi
      rw [List.mem_singleton] at hi
      subst hi
      refine wpOp_runG (o := ⟨none, _, _, _, _, _⟩) rfl rfl fun K' hK => ?_
      go_simp
      refine hK _ _ ⟨trivial, ?_⟩
      clear hK K'
      try simp only [Act.put, List.setIfInBounds_toArray, List.set_cons_zero, List.set_cons_succ]
      refine wpAnyH_take (i := 14) (oi := ⟨some 48, _, _, _, _, _⟩) (v := ?_) rfl (by kernel_rfl) (by kernel_rfl) (by kernel_rfl) (fun _ _ _ h => h) (Or.inl ⟨by rfl, ?_⟩) hS0 ?_
      rotate_left
      · (intro w' hSw; clear hSw; go_simp; try (with_reducible rfl))
      simp only [Act.put, List.setIfInBounds_toArray, List.set_cons_zero, List.set_cons_succ]
      refine wpAnyH_all (rs := [15]) (by kernel_rfl) (by simp) ?_
      intro i hi
      rw [List.mem_singleton] at hi
      subst hi
      refine wpOp_runG (o := ⟨none, _, _, _, _, _⟩) rfl rfl fun K' hK => ?_
      go_simp
      refine hK _ _ ⟨trivial, ?_⟩
      clear hK K'
      try simp only [Act.put, List.setIfInBounds_toArray, List.set_cons_zero, List.set_cons_succ]
      refine wpAnyH_done (by kernel_rfl) ?_ _
      go_wp2_with fail
      go_meet
      exact ⟨rfl, rfl⟩
  case rest =>
    obtain ⟨rfl, hwx⟩ := hcut
    rw [hwx]
    clear hwx ci ck fi fk
    generalize ((w4.setCell ⟨lb, i, none⟩ (.string (bs xk))).setCell ⟨lb, k, none⟩ (.string (bs xi))).drew = w6 at HOw B6 ⊢
    rw [show L.length = M.length from HML.out.symm] at HOw ⊢
    have hM12 : 12 ≤ M.length ∧ M.length ≤ 112 := by have := HML.out; omega
    have hjr := hL12
    clear hL12 hiL hkL
    generalize hTT : M.flatMap (fun l => l ++ [10]) = T at HRd HCv2
    have HTT := Lib.hid hTT
    have hmlm := hM12
    clear hTT
    go_wp2_with fail
    go_loopw [10, 11] (fun v i wr => orI M w6 v i wr) (fun _ i _ => M.length - (intOf i).toNat)
    case atStart => exact ⟨0, Nat.zero_le _, rfl, rfl, rfl⟩
    case round =>
      obtain ⟨q, hq, rfl, rfl, rfl⟩ := hrel
      by_cases hlt : q < M.length
      · have hqr : (q : Int) < (M.length : Int) := by omega
        have cq : wr.cell? ⟨lb, q, none⟩ = some (.string (bs M[q])) := by
          rw [HOw.out.cell q (by omega)]
          simp only [strCells, List.getElem?_map, List.getElem?_eq_getElem hlt, Option.map_some]
        have hxl := HMl.out M[q] (List.getElem_mem hlt)
        have hql := HTa.out q
        have HE := Lib.hid (show (M.take q).flatMap (fun l => l ++ [10]) ++ M[q] ++ [10] = (M.take (q + 1)).flatMap (fun l => l ++ [10]) by
          rw [List.take_succ_eq_append_getElem hlt, List.flatMap_append]; simp)
        generalize M[q] = x at cq hxl HE
        generalize (M.take q).flatMap (fun l => l ++ [10]) = Q at hql HE ⊢
        have a1 := str_add Q x (by omega)
        obtain ⟨Q1, hQ1⟩ : ∃ Q1, Q ++ x = Q1 := ⟨_, rfl⟩
        have hQ1l : Q1.length = Q.length + x.length := by rw [← hQ1, List.length_append]
        rw [hQ1] at a1 HE
        have a2 := str_add Q1 [10] (by simp; omega)
        rw [HE.out] at a2
        simp only [show bs [10] = ⟨#[10]⟩ from rfl] at a2
        obtain ⟨Q2, hQ2⟩ : ∃ Q2, (M.take (q + 1)).flatMap (fun l => l ++ [10]) = Q2 := ⟨_, rfl⟩
        rw [hQ2] at a2
        have HQ2 := Lib.hid hQ2
        clear hQ2
        clear hQ1 hQ1l hql hxl
        go_wp2_with fail
        go_roundw
        case rel => exact ⟨q + 1, by omega, by go_num, by rw [HQ2.out], rfl⟩
        case measure => simp [intOf]; omega
      · obtain rfl : q = M.length := by omega
        rw [List.take_length, HTT.out]
        obtain ⟨cp7, w7, hcv2, hB7, hr7, hc7, hm7⟩ := HCv2.out wr
        have B7 := Lib.hid (B6.out.trans (hB7.mono B6.out.size))
        have Hr7 := Lib.hid hr7
        have Hc7 := Lib.hid (And.intro hc7 hm7)
        clear hB7 hr7 hc7 hm7
        go_wp2_with (first
          | (go_at_call 9; (with_reducible refine (HRd.out _ _ _ Hr7.out Hc7.out.1 Hc7.out.2).mono ?_); rintro e w8 ⟨so, sc, rfl, hx, hy⟩; have HS8 := Lib.hid hx; have B8 := Lib.hid (B7.out.trans (hy.mono B7.out.size)); clear hx hy)
          | (refine wpList_store_row rfl 30 (.tmp 12) _ rfl rfl rfl (heap_alloc_new _ _) rfl (jb_info19 _ _ _) (jb_one19 _ _ _) ?_; intro w9 h9 o9; have hB9 : Below w8.heap.size w8 w9 := (ext_alloc _ _).trans (o9.below (by simp) (fun k hk e => by omega)); have R9 := Lib.hid h9; have B9 := Lib.hid (B8.out.trans (hB9.mono B8.out.size)); have HS9 := Lib.hid (HS8.out.ext hB9); have R0b := Lib.hid ((B9.out.block jb (blk_lt R0.out)).trans R0.out); clear h9 o9 hB9)
          | (refine wpList_load_rowg rfl 30 (.tmp 12) rfl w8.heap.size rfl 30 _ (0, 0) _ R9.out Try.underlying30 rfl (jb_info19 _ _ _) ?_)
          | (refine wpList_load_rowg rfl 30 (.tmp 3) rfl jb rfl 30 _ (0, 0) _ R0b.out Try.underlying30 rfl HIj.out ?_)
          | (go_at_call 11; (with_reducible refine (HSm.out _ _ _ B9.out HS9.out).mono ?_); rintro e w10 ⟨rfl, hx⟩; have B10 := Lib.hid (B9.out.trans (hx.mono B9.out.size)); clear hx)
          | (go_at_call 8; (with_reducible refine (HA.out _).mono ?_); rintro e w11 ⟨rfl, hx⟩; have B11 := Lib.hid hx; clear hx))
        go_ret
        have b10 := B0.out.trans (B10.out.mono B0.out.size)
        exact ⟨rfl, b10.trans (B11.out.mono b10.size)⟩
end Go.Proofs.Ytmflopeedofkhaa
