/- WalkMoves: the walk. -/
import Derived.Test.YtcklfffeimnfeaaGreatWLMovesT
import Derived.Test.YtcklfffeimnfeaaGreatMoveW
import Derived.Test.YtcklfffeimnfeaaGreatRefBuild
import Derived.Test.YtcklfffeimnfeaaGreatBx16
import Derived.Deep.RegionHeld
import Derived.BigQuiet
namespace Go.Proofs.YtcklfffeimnfeaaGreat
set_option linter.unusedSimpArgs false
set_option linter.unusedVariables false
set_option maxRecDepth 100000
open Go.RowKit

theorem move_wk22 {j : JobD} (hj : JobOk j) {x : WkD} (hx : WkOk x) {l : List ArcD} (hl : ∀ a ∈ l, a.1 < 4294967296) (t : List CellD) : WkOk (moveM j x l t).1 := by
  have z0 : (0 : Nat) < 4294967296 := by decide
  have z1 : (1 : Nat) < 4294967296 := by decide
  have hs : ∀ tv, tv < 4294967296 → WkOk (stepsM j x tv).1 := fun tv h => ⟨hx.id, Nat.mod_lt _ (by decide), h, (by simp only [stepsM]; split; exact hx.at_; exact z0), z0, z0, z0⟩
  have hlo : x.try_ < j.tries → WkOk (lostM j x).1 := fun h => by
    unfold lostM
    have := hj.tries
    split
    · exact hx
    · exact ⟨hx.id, hx.step, hx.at_, hx.prev, z0, (by simp only; omega), z0⟩
  have hsrc : ∀ i, j.src[i]! < 4294967296 := fun i => by
    by_cases h : i < j.src.length
    · rw [getElem!_pos j.src i h]; exact hj.src _ (List.getElem_mem h)
    · rw [getElem!_neg j.src i h]; decide
  have harc : ∀ i : Nat, l[i]!.1 < 4294967296 := fun i => by
    by_cases h : i < l.length
    · rw [getElem!_pos l i h]; exact hl _ (List.getElem_mem h)
    · rw [getElem!_neg l i h]; decide
  unfold moveM
  split
  · exact hx
  rename_i hm
  have hmw : mayW j x = true := by
    cases e : mayW j x with
    | true => rfl
    | false => rw [e] at hm; simp at hm
  have ht := (mayW_dest hmw).try_
  split
  · split
    · exact hs _ hx.next
    · exact hlo ht
  split
  · exact hx
  split
  · exact hs _ (hsrc _)
  split
  · exact hx
  unfold takeM
  split
  · split
    · split
      · exact hs _ (harc _)
      · exact hlo ht
    · exact ⟨hx.id, hx.step, hx.at_, hx.prev, harc _, hx.try_, z1⟩
  · exact hs _ (harc _)
theorem RdS.arcLt22 {fp : Nat → Prop} {w : World} {ao : Option Addr} {l : List ArcD} (h : RdS arcRep fp w ao l) : ∀ a ∈ l, a.1 < 4294967296 := fun a ha => by
  obtain ⟨i, hi, rfl⟩ := List.mem_iff_getElem.1 ha
  obtain ⟨_, _, _, _, _, _, hok⟩ := h.arc i hi
  exact hok.1
section
variable {P : Program} {Q : Exit → Act → World → Prop}
theorem wp_store_row22 {op : Oper} {a : Act} {w : World} {K : Act → World → Prop} (ty : TypeId) (x y : Operand) (ho : op.op = .store ty x y) {b : Nat} {cells cur : Array Value} {t : TypeId} (hx : a.eval x = .pointer (some ⟨b, 0, none⟩)) (hy : a.eval y = .agg cells)
    (hb : w.heap[b]? = some (.cells cur t (0, 0))) (hs : cells.size = cur.size) (hi : (P.info? ty).map (·.size) = some cells.size) (h1 : cells.all (·.oneCell') = true)
    (hK : ∀ w', w'.heap[b]? = some (.cells cells t (0, 0)) → Only (fun k => k = b) w w' → K (a.put op.dst undef) w') : op.wp P a w K Q := by
  refine wp_store_mid ty x y ho b 0 cells hx hy (fun j hj => ?_) hi h1 (hK _ ?_ (only_setCells b _ 0 w))
  · rw [Nat.zero_add]
    refine ⟨?_, frozen_of_row w b j cur t hb⟩
    rw [cell_of_row w b j cur t (0, 0) hb]
    simp; omega
  · have := heap_setCells_in b t (0, 0) cells.toList 0 w cur hb
    rwa [setsAt_all cur cells hs] at this
end
/-- the job's row and the walker's -/
def VRows (b g : Nat) (jc wc : Array Value) (w' : World) : Prop := w'.heap[b]? = some (.cells jc 29 (0, 0)) ∧ w'.heap[g]? = some (.cells wc 44 (0, 0))
theorem VRows.keep {b g : Nat} {jc wc : Array Value} {w w' : World} (h : VRows b g jc wc w) (hB : Below w.heap.size w w') : VRows b g jc wc w' := ⟨heap_keep h.1 hB, heap_keep h.2 hB⟩
theorem VRows.only {b g k : Nat} {jc wc : Array Value} {w w' : World} (h : VRows b g jc wc w) (hO : Only (fun i => i = k) w w') (hb : b < k) (hg : g < k) : VRows b g jc wc w' :=
  ⟨(hO.same b (Array.getElem?_eq_some_iff.1 h.1).1 (by omega)).trans h.1, (hO.same g (Array.getElem?_eq_some_iff.1 h.2).1 (by omega)).trans h.2⟩
def MvCut (m : WkD × Nat) (b g : Nat) (jc wc : Array Value) (w7 : World) (v16 v17 : Value) (wx : World) : Prop :=
  ∃ (g2 : Nat), v17 = .int .u8 (m.2 : Nat) ∧ v16 = .pointer (some ⟨g2, 0, none⟩) ∧ wx.heap[g2]? = some (.cells (wkCs m.1) 44 (0, 0)) ∧ w7.heap.size ≤ g2 ∧ VRows b g jc wc wx ∧ Below w7.heap.size w7 wx
def movAt (x : WkD) : Nat := if x.state = 1 then x.prev else x.at_
def movJ (R : List RowD) (j : JobD) (id : Nat) (bw : Nat) (jc : Array Value) (b0 : Nat) (w6 : World) (v12 v13 : Value) (wr : World) : Prop :=
  ∃ (n : Nat) (p : List Nat) (x : WkD) (ao : Option Addr) (cap : Nat) (g : Option Nat), v13 = .int .i64 (n : Nat) ∧ v12 = .slice ao p.length cap ∧ Own wr ao cap g 24 1 p.length (u32s p) ∧ (∀ k, g = some k → w6.heap.size ≤ k) ∧
    MovI R j id p x ∧ WkOk x ∧ n + muW j x ≤ 800 ∧ wr.heap[bw]? = some (.cells (wkCs x) 44 (0, 0)) ∧ wr.heap[b0]? = some (.cells jc 29 (0, 0)) ∧ Only (fun k => k = bw) w6 wr
theorem newJ_ok22 {j : JobD} (hj : JobOk j) {id : Nat} (hid : id < 4294967296) : WkOk (newJ j id) := by
  have z0 : (0 : Nat) < 4294967296 := by decide
  have hsrc : ∀ i, j.src[i]! < 4294967296 := fun i => by
    by_cases h : i < j.src.length
    · rw [getElem!_pos j.src i h]; exact hj.src _ (List.getElem_mem h)
    · rw [getElem!_neg j.src i h]; decide
  unfold newJ
  split
  · exact ⟨hid, z0, hsrc _, z0, z0, z0, z0⟩
  · exact ⟨z0, z0, z0, z0, z0, z0, z0⟩
theorem wk_info22 (x : WkD) : (Tryz.prog.info? 44).map (·.size) = some (wkCs x).size := by kernel_rfl
theorem okG_any {l : List EdgeD} (hok : ∀ x ∈ l, okE x) : okG (ofM l).1 := by
  by_cases h : (ofM l).2 = 0
  · exact of_fit hok h
  · rcases ofM_cases l hok with ⟨_, h2⟩ | ⟨_, _, h2⟩ | ⟨_, _, R, h2, _⟩
    · rw [h2]; exact ⟨⟨.nil, fun r hr => by cases hr⟩, fun r hr => by cases hr⟩
    · rw [h2]; exact ⟨⟨.nil, fun r hr => by cases hr⟩, fun r hr => by cases hr⟩
    · rw [h2] at h; exact absurd rfl h
set_option maxRecDepth 100000 in
set_option maxHeartbeats 12800000 in
theorem moves_walk (l : List EdgeD) (eo : Option Addr) (ec : Nat) (fp : Nat → Prop) (j : JobD) (hj : JobOk j) (so : Option Addr) (sc id : Nat) (hid : id < 4294967296)
    (w : World) (hsrc : Rd w so j.src.length (u32s j.src)) (hrd : RdS edgeRep fp w eo l) :
    Calls Tryz.prog 10 #[.slice eo l.length ec, .agg (jobCs j so sc), .int .u32 (id : Nat)] w (RetB (.bool true) w) := by
  have HA := Lib.hid awake22_any
  obtain ⟨w1, hw1⟩ : ∃ w1, w.alloc (.cells (jobCs j so sc) 29) = w1 := ⟨_, rfl⟩
  have B1 := Lib.hid (show Below w.heap.size w w1 by rw [← hw1]; exact ext_alloc w _)
  have S1 := Lib.hid (show w1.heap[w.heap.size]? = some (.cells (jobCs j so sc) 29 (0, 0)) by rw [← hw1]; exact heap_alloc_new _ _)
  have HGj := Lib.hid (fun W => great22_any j hj so sc W)
  have HIj := Lib.hid (jb_info2 j so sc)
  have Hw1 := Lib.hid hw1
  have Hsrc := Lib.hid hsrc
  have HPp := Lib.hid (fun (p : Option Nat) (R : List RowD) (W : World) (hR : okG R) (hl : R.length ≤ 1000) (ha : ∀ r ∈ R, r.2.length ≤ 1000) (gfp : Nat → Prop) (hg : GraphIs W gfp p R) (hgf : ∀ b, gfp b → b < W.heap.size) (hB : Below w.heap.size w W) (hs : j.src.length ≤ 1000000) => path_any p R gfp W hR hl ha hg hgf j hj so sc id hid hs (Hsrc.out.ext hB))
  have HMv := Lib.hid (fun (hs : j.src.length ≤ 1000000) (x : WkD) (hx : WkOk x) (l : List ArcD) (T : List CellD) (ao bo : Option Addr) (ca cb : Nat) (fp fq : Nat → Prop) (W : World) (hl : l.length ≤ 1000) (hT : T.length = l.length) (hB : Below w.heap.size w W) (hrd : RdS arcRep fp W ao l) (hrt : RdS cellRep fq W bo T) =>
    (show Calls Tryz.prog 23 #[.agg (jobCs j so sc), .agg (wkCs x), .slice ao l.length ca, .slice bo T.length cb] W (fun e w' => ∃ yc, Hid (yc = wkCs (moveM j x l T).1) ∧ e = .returned (.tuple #[.agg yc, .int .u8 ((moveM j x l T).2 : Nat)]) ∧ Below W.heap.size W w') from
      (move_any j hj so sc x hx l T ao bo ca cb fp fq W (by omega) (by omega) hs (Hsrc.out.ext hB) hrd hrt).mono fun e w' he => ⟨_, Lib.hid rfl, he.1, he.2⟩))
  obtain ⟨y, hy⟩ : ∃ y, newJ j id = y := ⟨_, rfl⟩
  have hyk : WkOk y := hy ▸ newJ_ok22 hj hid
  obtain ⟨yc, hyc⟩ : ∃ yc, wkCs y = yc := ⟨_, rfl⟩
  have HYc := Lib.hid hyc.symm
  have HNw := Lib.hid (fun (hs : j.src.length ≤ 1000000) W (h : Below w.heap.size w W) => (show Calls Tryz.prog 18 #[.agg (jobCs j so sc), .int .u32 (id : Nat)] W (RetB (.tuple #[.agg yc, .bool (srcH j id)]) W) from by
    have h8 := rnew_any j hj so sc id hid W hs (Hsrc.out.ext h)
    unfold newV at h8
    rw [hy, hyc] at h8
    exact h8))
  clear hw1 hsrc hyc
  obtain ⟨jc, hjc⟩ : ∃ jc, jobCs j so sc = jc := ⟨_, rfl⟩
  rw [hjc] at Hw1 S1 HGj HIj HPp HMv HNw ⊢
  clear hjc
  by_cases c1 : 60 < l.length
  · have d1 : decide ((60 : Int) < (l.length : Int)) = true := by simp; omega
    have d1' : decide (60 < l.length) = true := by simp; omega
    clear HPp HMv HNw
    go_enter Tryz.func10, Tryz.ntmps10
    go_upto_region 1 with fail
    rw [Hw1.out]
    go_wp2_with (go_at_call 12; (with_reducible refine (HA.out _).mono ?_); rintro e w9 ⟨rfl, hB⟩; have B9 := Lib.hid (B1.out.trans (hB.mono B1.out.size)); clear hB)
    go_ret
    exact ⟨rfl, B9.out⟩
  have d1 : decide ((60 : Int) < (l.length : Int)) = false := by simp; omega
  have d1' : decide (60 < l.length) = false := by simp; omega
  cases hgj : greatW j with
  | true =>
    rw [hgj] at HGj
    clear HPp HMv HNw
    go_enter Tryz.func10, Tryz.ntmps10
    go_upto_region 1 with fail
    rw [Hw1.out]
    go_wp2_with (first
    | (refine wpList_load_rowg rfl _ _ rfl w.heap.size rfl 29 jc (0, 0) _ S1.out Tryz.underlying29 rfl HIj.out ?_)
    | (go_at_call 11; (with_reducible refine (HGj.out _).mono ?_); rintro e w2 ⟨rfl, hB⟩; have B2 := Lib.hid (B1.out.trans (hB.mono B1.out.size)); clear hB)
    | (go_at_call 12; (with_reducible refine (HA.out _).mono ?_); rintro e w9 ⟨rfl, hB⟩; have B9 := Lib.hid (B2.out.trans (hB.mono B2.out.size)); clear hB))
    go_ret
    exact ⟨rfl, B9.out⟩
  | false =>
  rw [hgj] at HGj
  have hg1 := greatW_no hgj
  have hsl : j.src.length ≤ 1000000 := by omega
  have HMv := Lib.hid (HMv.out hsl)
  have HNw := Lib.hid (HNw.out hsl)
  have hokL := hrd.okEs
  have hlen := ofM_len l
  have HOf := Lib.hid (fun W (h : Below w.heap.size w W) => gof_any l eo ec fp W (by omega) hokL (hrd.ext h))
  have hR : okG (ofM l).1 := okG_any hokL
  obtain ⟨r, hre⟩ : ∃ r, ofM l = r := ⟨_, rfl⟩
  rw [hre] at HOf hlen hR
  obtain ⟨R, er⟩ := r
  simp only at hR hlen
  obtain ⟨F, hF⟩ : ∃ F, pathW R j id = F := ⟨_, rfl⟩
  have hFl : F.length ≤ 21 := by
    rw [← hF]
    unfold pathW
    split
    · have h1 := (walk_pre R j id j.length [(newJ j id).at_]).2
      rw [List.length_singleton] at h1; omega
    · simp
  have hF0 : srcH j id = false → F = [] := fun h => by rw [← hF]; unfold pathW; rw [h]; rfl
  have hAl : ∀ v, (arcs15M R v).length ≤ 1000 := fun v => by
    rcases arcs15_mem (R := R) (v := v) with e | ⟨r, hm, _, e⟩
    · rw [e]; simp
    · rw [e]; have := hlen.1 r hm; omega
  have HP1 := Lib.hid (fun p W hg hB => HPp.out p R W hR (by omega) (fun r hr => by have := hlen.1 r hr; omega) _ hg (fun _ h => h) hB hsl)
  rw [hF] at HP1
  have HF := Lib.hid hF
  have hRk := Lib.hid hR
  have HAl := Lib.hid hAl
  have HGa := Lib.hid (fun p v gfp W (hg : GraphIs W gfp p R) => garcs_any p R v gfp W (by omega) (fun r hr => by have := hlen.1 r hr; omega) hR.1.1 hg)
  clear hF hre hR hAl HPp hrd
  go_enter Tryz.func10, Tryz.ntmps10
  go_upto_region 1 with fail
  rw [Hw1.out]
  go_upto_region 5 with (first
                | (refine wpList_load_rowg rfl _ _ rfl w.heap.size rfl 29 jc (0, 0) _ S1.out Tryz.underlying29 rfl HIj.out ?_)
                | (go_at_call 11; (with_reducible refine (HGj.out _).mono ?_); rintro e w2 ⟨rfl, hB⟩; have S2 := Lib.hid (heap_keep S1.out hB); have B2 := Lib.hid (B1.out.trans (hB.mono B1.out.size)); clear hB)
                | (go_at_call 14; (with_reducible refine (HOf.out _ B2.out).mono ?_); rintro e w3 ⟨p, rfl, _, _, hG, hB⟩; have S3 := Lib.hid (heap_keep S2.out hB); have B3 := Lib.hid (B2.out.trans (hB.mono B2.out.size)); have G3 := Lib.hid (hG.mono (fp' := fun k => k < w3.heap.size) (fun b h hl => hl)); clear hG hB)
                | (refine wpList_load_row rfl _ _ rfl w.heap.size rfl 29 jc (0, 0) _ S3.out Tryz.underlying29 rfl HIj.out ?_)
                | (go_at_call 18; (with_reducible refine (HNw.out _ B3.out).mono ?_); rintro e w4 ⟨rfl, hB⟩; have S4 := Lib.hid (heap_keep S3.out hB); have B4 := Lib.hid (B3.out.trans (hB.mono B3.out.size)); have G4 := Lib.hid ((G3.out.ext hB).mono (fp' := fun k => k < w4.heap.size) (fun b h hl => hl)); have Z4 := Lib.hid (heap_alloc_new w4 (.cells #[.int .u32 0, .int .u32 0, .int .u32 0, .int .u32 0, .int .u32 0, .int .u32 0, .int .u32 0] 44)); clear hB)
                | (refine wpList_store_row rfl _ _ _ rfl rfl rfl Z4.out (by rw [HYc.out]; rfl) (by rw [HYc.out]; exact wk_info22 _) (by rw [HYc.out]; simp [wkCs, Value.oneCell']) ?_; intro w5 hg5 ho5; have HG5 := Lib.hid hg5; have HO5 := Lib.hid ho5; clear hg5 ho5))
  have HB45 := Lib.hid (show Below w4.heap.size w4 w5 from (ext_alloc w4 _).trans (HO5.out.below (by simp) (fun k hk e => by omega)))
  have S5 := Lib.hid (heap_keep S4.out HB45.out)
  have B5 := Lib.hid (B4.out.trans (HB45.out.mono B4.out.size))
  have G5 := Lib.hid ((G4.out.ext HB45.out).mono (fp' := fun k => k < w5.heap.size) (fun b h hl => hl))
  have G5b := Lib.hid (G4.out.ext HB45.out)
  have HPw := Lib.hid (HP1.out p w5 G5.out B5.out)
  have hbw0 : w.heap.size < w4.heap.size := (Array.getElem?_eq_some_iff.1 S4.out).1
  have hbw5 : w4.heap.size < w5.heap.size := (Array.getElem?_eq_some_iff.1 HG5.out).1
  obtain ⟨gv, hgv⟩ : ∃ gv, gV p = gv := ⟨_, rfl⟩
  have HGa := Lib.hid (fun v gfp W hg => hgv ▸ HGa.out p v gfp W hg)
  rw [hgv] at HPw ⊢
  obtain ⟨bw, hbw⟩ : ∃ bw, w4.heap.size = bw := ⟨_, rfl⟩
  rw [hbw] at HG5 hbw0 hbw5 G5b ⊢
  clear HP1 hgv hbw HO5 Z4 HB45 HOf HNw HGj G4 B4 S4 S3 B3 G3
  go_upto_region 6 with (first
    | (refine wpList_load_row rfl _ _ rfl w.heap.size rfl 29 jc (0, 0) _ S5.out Tryz.underlying29 rfl HIj.out ?_)
    | (go_at_call 16; (with_reducible refine HPw.out.mono ?_); rintro e w6 ⟨a6, pc6, g6, rfl, ho, hg6, hB⟩; have P6 := Lib.hid ho; have GP6 := Lib.hid (show ∀ k, g6 = some k → ¬ k = bw from fun k hk e => by have := hg6 k hk; omega); have S6 := Lib.hid (heap_keep S5.out hB); have B6 := Lib.hid (B5.out.trans (hB.mono B5.out.size)); have G6 := Lib.hid (G5b.out.ext hB); have W6 := Lib.hid (heap_keep HG5.out hB); have hz6 := hB.size; clear ho hB hg6))
  clear HPw G5 G5b S5 HG5
  by_cases hmain : er ≠ 0 ∨ srcH j id = false
  · have hFz : srcH j id = false → ((F.length : Int) == 0) = true := fun h => by rw [hF0 h]; rfl
    have hFz' : srcH j id = false → (F.length == 0) = true := fun h => by rw [hF0 h]; rfl
    clear HMv HGa hF0 HF G6 P6 hyk hy
    by_cases her : er ≠ 0
    · have de : ((er : Int) != 0) = true := by simp; omega
      have de' : (er != 0) = true := by simp; omega
      clear hmain her
      cases his : srcH j id with
      | true =>
        clear hFz hFz' his
        go_wp2_with (go_at_call 12; (with_reducible refine (HA.out _).mono ?_); rintro e w9 ⟨rfl, hB⟩; have B9 := Lib.hid (B6.out.trans (hB.mono B6.out.size)); clear hB)
        go_ret
        exact ⟨rfl, B9.out⟩
      | false =>
        have f1 := hFz his
        have f2 := hFz' his
        clear hFz hFz' his
        go_wp2_with (go_at_call 12; (with_reducible refine (HA.out _).mono ?_); rintro e w9 ⟨rfl, hB⟩; have B9 := Lib.hid (B6.out.trans (hB.mono B6.out.size)); clear hB)
        go_ret
        exact ⟨rfl, B9.out⟩
    · have de : ((er : Int) != 0) = false := by simp; omega
      have de' : (er != 0) = false := by simp; omega
      have his := hmain.resolve_left her
      have f1 := hFz his
      have f2 := hFz' his
      rw [his]
      clear hFz hFz' his hmain her
      go_wp2_with (go_at_call 12; (with_reducible refine (HA.out _).mono ?_); rintro e w9 ⟨rfl, hB⟩; have B9 := Lib.hid (B6.out.trans (hB.mono B6.out.size)); clear hB)
      go_ret
      exact ⟨rfl, B9.out⟩
  obtain rfl : er = 0 := Decidable.of_not_not (fun e => hmain (.inl e))
  have his : srcH j id = true := by
    cases e : srcH j id with
    | true => rfl
    | false => exact absurd (.inr e) hmain
  obtain ⟨hM0, hmu0⟩ := mov_new (R := R) his
  rw [hy] at hM0 hmu0
  have hmu1 : muW j y ≤ 800 := by rw [hmu0]; exact mov_small hg1.2.1 hg1.1
  rw [his]
  have HM0 := Lib.hid hM0
  have Hyk := Lib.hid hyk
  have HMu := Lib.hid hmu1
  have cy2 : w6.cell? ⟨bw, 2, none⟩ = some (.int .u32 (y.at_ : Nat)) := by
    have h := W6.out
    rw [HYc.out] at h
    exact (wk_cells h).2.2.1
  clear hmain his hF0 hM0 hmu0 hmu1 hy hyk
  go_wp2_with fail
  go_loopw [12, 13] (fun v12 v13 wr => movJ R j id bw jc w.heap.size w6 v12 v13 wr) (fun _ v13 _ => 1000 - (intOf v13).toNat)
  case atStart =>
    refine ⟨0, [y.at_], y, some ⟨w6.heap.size, 0, none⟩, 1, some w6.heap.size, rfl, rfl, ?_, (fun k h => by cases h; exact Nat.le_refl _), HM0.out, Hyk.out, by have := HMu.out; omega, ?_, heap_keep S6.out (ext_alloc w6 _), (Only.refl (fun k => k = bw) w6).alloc _⟩
    · exact ⟨rfl, .inr ⟨w6.heap.size, _, rfl, rfl, heap_alloc_new w6 _, Nat.le_refl _, by decide, rfl, rfl⟩⟩
    · have h := heap_keep W6.out (ext_alloc w6 (.cells #[.int .u32 (y.at_ : Nat)] 24))
      rw [HYc.out] at h
      exact h
  case round =>
    obtain ⟨n, p', x, ao, cap, g, rfl, rfl, hown, hg, hM, hx, hmu, hrow, hjr, hO⟩ := hrel
    rename World => wo
    have hn8 : n ≤ 800 := by omega
    have t1 : decide ((n : Int) < 1000) = true := decide_eq_true (by omega)
    have t1' : decide (n < 1000) = true := decide_eq_true (by omega)
    obtain ⟨_, _, k2, k3, _, _, k6⟩ := wk_cells hrow
    have Bo := Lib.hid (B6.out.trans (hO.below B6.out.size (fun k hk e => by omega)))
    have Go := Lib.hid (G6.out.only hO (fun k hk _ e => by have : k < bw := hk; omega))
    have Po := Lib.hid (P6.out.only hO GP6.out)
    have Hown := Lib.hid hown
    have HGm := Lib.hid hg
    have HM := Lib.hid hM
    have Hx := Lib.hid hx
    have Hmu := Lib.hid hmu
    have Hrow := Lib.hid hrow
    have Hjr := Lib.hid hjr
    have HO := Lib.hid hO
    clear hown hg hM hx hmu hrow hjr hO cy2
    go_upto_if 67 with (fail)
    go_cut [14] (fun v wx => v = .int .u32 (movAt x : Nat) ∧ wx = wo)
    case first =>
      by_cases hst : x.state = 1
      · have s1 : ((x.state : Int) == 1) = true := by rw [hst]; rfl
        have s1' : (x.state == 1) = true := by rw [hst]; rfl
        have Hma := Lib.hid (show movAt x = x.prev by unfold movAt; rw [if_pos hst])
        clear hst
        go_wp2_with fail
        go_meet
        exact ⟨by rw [Hma.out], rfl⟩
      · have s1 : ((x.state : Int) == 1) = false := beq_eq_false_iff_ne.2 (by omega)
        have s1' : (x.state == 1) = false := beq_eq_false_iff_ne.2 hst
        have Hma := Lib.hid (show movAt x = x.at_ by unfold movAt; rw [if_neg hst])
        clear hst
        go_wp2_with fail
        go_meet
        exact ⟨by rw [Hma.out], rfl⟩
    case rest =>
      obtain ⟨rfl, hw⟩ := hcut
      obtain rfl : wo = wc := hw.symm
      clear hw k2 k3 k6
      have HMo := Lib.hid (mov_move hRk.out HM.out)
      rw [show movA R x = arcs15M R (movAt x) from rfl] at HMo
      obtain ⟨av, hav⟩ : ∃ av, movAt x = av := ⟨_, rfl⟩
      rw [hav] at HMo ⊢
      have hA1 := HAl.out av
      have HAr := Lib.hid (HGa.out av _ wo Go.out)
      generalize arcs15M R av = A at hA1 HAr HMo
      obtain ⟨T, hT⟩ : ∃ T, buildT (A.map (·.2)) = T := ⟨_, rfl⟩
      have hTl : T.length = A.length := by rw [← hT, (buildT_right _).1, List.length_map]
      rw [hT] at HMo
      obtain ⟨m, hm⟩ : ∃ m, moveM j x A T = m := ⟨_, rfl⟩
      rw [hm] at HMo
      clear hav
      go_upto_region 16 with (go_at_call 19; (with_reducible refine HAr.out.mono ?_); rintro e w7 ⟨aa, cc, ga, rfl, hos, _, hB⟩; have RA := Lib.hid hos.rd; have E7 := Lib.hid hB; clear hB hos)
      have B7 := Lib.hid (Bo.out.trans (E7.out.mono Bo.out.size))
      have HMw := Lib.hid (fun W (h : Below w7.heap.size w7 W) bo cb fq hrt => HMv.out x Hx.out A T aa bo cc cb _ fq W hA1 hTl (B7.out.trans (h.mono B7.out.size)) (RA.out.ext h) hrt)
      rw [hm] at HMw
      rw [hTl] at HMw
      have HBd := Lib.hid (fun W (h : Below w7.heap.size w7 W) => (show Calls Tryz.prog 24 #[.slice aa A.length cc] W (fun e w' => ∃ bo cb, e = .returned (.slice bo A.length cb) ∧ RdS cellRep (fun b => W.heap.size ≤ b) w' bo T ∧ Below W.heap.size W w') from
        (buildX_any A aa cc _ W (by omega) (RA.out.ext h)).mono fun e w' he => by
          obtain ⟨bo, cb, h1, _, _, h4, h5⟩ := he
          rw [hT] at h1 h4
          rw [hTl] at h1
          exact ⟨bo, cb, h1, h4, h5⟩))
      have HWk := Lib.hid (hm ▸ move_wk22 hj Hx.out RA.out.arcLt22 T)
      have HIw := Lib.hid (wk_info22 x)
      have HS7 := Lib.hid (show VRows w.heap.size bw jc (wkCs x) w7 from ⟨heap_keep Hjr.out E7.out, heap_keep Hrow.out E7.out⟩)
      obtain ⟨wkc, hwkc⟩ : ∃ c, wkCs x = c := ⟨_, rfl⟩
      have Hwkc := Lib.hid hwkc
      rw [hwkc] at HMw HIw HS7
      clear hwkc HAr hm hT hTl
      go_cut [16, 17] (fun v16 v17 wx => MvCut m w.heap.size bw jc wkc w7 v16 v17 wx)
      case first =>
        refine wp_region_held (S := VRows w.heap.size bw jc wkc) (by kernel_rfl) ?_
        have hS0 := HS7.out.keep (ext_drew w7)
        have B8 := Lib.hid (ext_drew w7)
        change wpAnyH _ _ _ _ _ _ _ _ (World.drew _)
        generalize World.drew w7 = w8 at hS0 B8 ⊢
        refine wpAnyH_take (i := 0) (oi := ⟨some 74, _, _, _, _, _⟩) (v := .agg jc) rfl (by kernel_rfl) (by kernel_rfl) (by kernel_rfl) (fun _ _ _ h => h) (yieldsIf_row22 rfl _ _ rfl w.heap.size rfl 29 jc (0, 0) _ (fun _ h => h.1) Tryz.underlying29 rfl HIj.out) hS0 ?_
        simp only [Act.put, List.setIfInBounds_toArray, List.set_cons_zero, List.set_cons_succ]
        refine wpAnyH_take (i := 1) (oi := ⟨some 75, _, _, _, _, _⟩) (v := .agg wkc) rfl (by kernel_rfl) (by kernel_rfl) (by kernel_rfl) (fun _ _ _ h => h) (yieldsIf_row22 rfl _ _ rfl bw rfl 44 wkc (0, 0) _ (fun _ h => h.2) Tryz.underlying44 rfl HIw.out) hS0 ?_
        simp only [Act.put, List.setIfInBounds_toArray, List.set_cons_zero, List.set_cons_succ]
        refine wpAnyH_take (i := 2) (oi := ⟨some 76, _, _, _, _, _⟩) (v := ?_) rfl (by kernel_rfl) (by kernel_rfl) (by kernel_rfl) (fun _ _ _ h => h) (Or.inl ⟨by rfl, ?_⟩) hS0 ?_
        rotate_left
        · (intro w' hSw; clear hSw; go_simp; try (with_reducible rfl))
        simp only [Act.put, List.setIfInBounds_toArray, List.set_cons_zero, List.set_cons_succ]
        refine wpAnyH_take (i := 3) (oi := ⟨some 77, _, _, _, _, _⟩) (v := ?_) rfl (by kernel_rfl) (by kernel_rfl) (by kernel_rfl) (fun _ _ _ h => h) (Or.inl ⟨by rfl, ?_⟩) hS0 ?_
        rotate_left
        · (intro w' hSw; clear hSw; go_simp; try (with_reducible rfl))
        simp only [Act.put, List.setIfInBounds_toArray, List.set_cons_zero, List.set_cons_succ]
        refine wpAnyH_all (rs := [4, 9]) (by kernel_rfl) (by simp) ?_
        intro i hi
        simp only [List.mem_cons, List.not_mem_nil, or_false] at hi
        rcases hi with rfl | rfl
        · refine wpOp_runW (o := ⟨some 78, _, _, _, _, _⟩) rfl rfl fun K' hK => ?_
          go_simp
          refine (HBd.out _ B8.out).mono ?_
          rintro e w10 ⟨bo, cb, rfl, hRT, hB⟩
          have hS1 := hS0.keep hB
          have B10 := Lib.hid (B8.out.trans (hB.mono B8.out.size))
          have E10 := Lib.hid hB
          clear hB hS0
          have hS0 := hS1
          clear hS1
          refine hK _ _ ⟨hS0, ?_⟩
          clear hK K'
          try simp only [Act.put, List.setIfInBounds_toArray, List.set_cons_zero, List.set_cons_succ]
          refine wpAnyH_all (rs := [5, 9]) (by kernel_rfl) (by simp) ?_
          intro i hi
          simp only [List.mem_cons, List.not_mem_nil, or_false] at hi
          rcases hi with rfl | rfl
          · refine wpOp_runW (o := ⟨some 79, _, _, _, _, _⟩) rfl rfl fun K' hK => ?_
            go_simp
            refine (HMw.out _ B10.out bo cb _ hRT).mono ?_
            rintro e w11 ⟨yc, HY, rfl, hB⟩
            have hS1 := hS0.keep hB
            have B11 := Lib.hid (B10.out.trans (hB.mono B10.out.size))
            have E11 := Lib.hid hB
            clear hB hS0
            have hS0 := hS1
            clear hS1
            refine hK _ _ ⟨hS0, ?_⟩
            clear hK K'
            try simp only [Act.put, List.setIfInBounds_toArray, List.set_cons_zero, List.set_cons_succ]
            refine wpAnyH_take (i := 6) (oi := ⟨some 73, _, _, _, _, _⟩) (v := ?_) rfl (by kernel_rfl) (by kernel_rfl) (by kernel_rfl) (fun _ _ _ h => h) (Or.inl ⟨by rfl, ?_⟩) hS0 ?_
            rotate_left
            · (intro w' hSw; clear hSw; go_simp; try (with_reducible rfl))
            simp only [Act.put, List.setIfInBounds_toArray, List.set_cons_zero, List.set_cons_succ]
            refine wpAnyH_take (i := 7) (oi := ⟨some 80, _, _, _, _, _⟩) (v := ?_) rfl (by kernel_rfl) (by kernel_rfl) (by kernel_rfl) (fun _ _ _ h => h) (Or.inl ⟨by rfl, ?_⟩) hS0 ?_
            rotate_left
            · (intro w' hSw; clear hSw; go_simp; try (with_reducible rfl))
            simp only [Act.put, List.setIfInBounds_toArray, List.set_cons_zero, List.set_cons_succ]
            refine wpAnyH_take (i := 8) (oi := ⟨some 81, _, _, _, _, _⟩) (v := ?_) rfl (by kernel_rfl) (by kernel_rfl) (by kernel_rfl) (fun _ _ _ h => h) (Or.inl ⟨by rfl, ?_⟩) hS0 ?_
            rotate_left
            · (intro w' hSw; clear hSw; go_simp; try (with_reducible rfl))
            simp only [Act.put, List.setIfInBounds_toArray, List.set_cons_zero, List.set_cons_succ]
            refine wpAnyH_all (rs := [9]) (by kernel_rfl) (by simp) ?_
            intro i hi
            rw [List.mem_singleton] at hi
            subst hi
            refine wpOp_runW (o := ⟨some 16, _, _, _, _, _⟩) rfl rfl fun K' hK => ?_
            go_simp
            obtain ⟨w12, hw12⟩ : ∃ w', w11.alloc (.cells #[.int .u32 0, .int .u32 0, .int .u32 0, .int .u32 0, .int .u32 0, .int .u32 0, .int .u32 0] 44) = w' := ⟨_, rfl⟩
            rw [hw12]
            have hB : Below w11.heap.size w11 w12 := by rw [← hw12]; exact ext_alloc _ _
            have G12 := Lib.hid (show w12.heap[w11.heap.size]? = some (.cells #[.int .u32 0, .int .u32 0, .int .u32 0, .int .u32 0, .int .u32 0, .int .u32 0, .int .u32 0] 44 (0, 0)) by rw [← hw12]; exact heap_alloc_new _ _)
            have Hg := Lib.hid (show w.heap.size < w11.heap.size ∧ bw < w11.heap.size ∧ w7.heap.size ≤ w11.heap.size from ⟨(Array.getElem?_eq_some_iff.1 hS0.1).1, (Array.getElem?_eq_some_iff.1 hS0.2).1, B11.out.size⟩)
            clear hw12
            generalize w11.heap.size = g2 at G12 Hg ⊢
            have hS1 := hS0.keep hB
            have B12 := Lib.hid (B11.out.trans (hB.mono B11.out.size))
            have E12 := Lib.hid hB
            clear hB hS0
            have hS0 := hS1
            clear hS1
            refine hK _ _ ⟨hS0, ?_⟩
            clear hK K'
            try simp only [Act.put, List.setIfInBounds_toArray, List.set_cons_zero, List.set_cons_succ]
            refine wpAnyH_all (rs := [10]) (by kernel_rfl) (by simp) ?_
            intro i hi
            rw [List.mem_singleton] at hi
            subst hi
            refine wpOp_runW (o := ⟨none, _, _, _, _, _⟩) rfl rfl fun K' hK => ?_
            refine wp_store_row22 _ _ _ rfl (b := g2) rfl rfl G12.out (by rw [HY.out]; rfl) (by rw [HY.out]; exact wk_info22 _) (by rw [HY.out]; simp [wkCs, Value.oneCell']) ?_
            intro w13 hrow hO
            have Hrow := Lib.hid hrow
            have hg2 := Hg.out
            have hS1 := hS0.only hO hg2.1 hg2.2.1
            have B13 := Lib.hid (B12.out.trans (hO.below B12.out.size (fun k hk e => by omega)))
            clear hO hS0 hrow hg2
            have hS0 := hS1
            clear hS1
            refine hK _ _ ⟨hS0, ?_⟩
            clear hK K'
            try simp only [Act.put, List.setIfInBounds_toArray, List.set_cons_zero, List.set_cons_succ]
            refine wpAnyH_take (i := 11) (oi := ⟨some 17, _, _, _, _, _⟩) (v := ?_) rfl (by kernel_rfl) (by kernel_rfl) (by kernel_rfl) (fun _ _ _ h => h) (Or.inl ⟨by rfl, ?_⟩) hS0 ?_
            rotate_left
            · (intro w' hSw; clear hSw; go_simp; try (with_reducible rfl))
            simp only [Act.put, List.setIfInBounds_toArray, List.set_cons_zero, List.set_cons_succ]
            refine wpAnyH_done (by kernel_rfl) ?_ _
            go_wp2_with fail
            go_meet
            exact ⟨g2, rfl, rfl, by rw [← HY.out]; exact Hrow.out, Hg.out.2.2, hS0, B13.out⟩
          · refine wpOp_runW (o := ⟨some 16, _, _, _, _, _⟩) rfl rfl fun K' hK => ?_
            go_simp
            obtain ⟨w11, hw11⟩ : ∃ w', w10.alloc (.cells #[.int .u32 0, .int .u32 0, .int .u32 0, .int .u32 0, .int .u32 0, .int .u32 0, .int .u32 0] 44) = w' := ⟨_, rfl⟩
            rw [hw11]
            have hB : Below w10.heap.size w10 w11 := by rw [← hw11]; exact ext_alloc _ _
            have G11 := Lib.hid (show w11.heap[w10.heap.size]? = some (.cells #[.int .u32 0, .int .u32 0, .int .u32 0, .int .u32 0, .int .u32 0, .int .u32 0, .int .u32 0] 44 (0, 0)) by rw [← hw11]; exact heap_alloc_new _ _)
            have Hg := Lib.hid (show w.heap.size < w10.heap.size ∧ bw < w10.heap.size ∧ w7.heap.size ≤ w10.heap.size from ⟨(Array.getElem?_eq_some_iff.1 hS0.1).1, (Array.getElem?_eq_some_iff.1 hS0.2).1, B10.out.size⟩)
            clear hw11
            generalize w10.heap.size = g2 at G11 Hg ⊢
            have hS1 := hS0.keep hB
            have B11 := Lib.hid (B10.out.trans (hB.mono B10.out.size))
            have E11 := Lib.hid hB
            clear hB hS0
            have hS0 := hS1
            clear hS1
            refine hK _ _ ⟨hS0, ?_⟩
            clear hK K'
            try simp only [Act.put, List.setIfInBounds_toArray, List.set_cons_zero, List.set_cons_succ]
            refine wpAnyH_all (rs := [5]) (by kernel_rfl) (by simp) ?_
            intro i hi
            rw [List.mem_singleton] at hi
            subst hi
            refine wpOp_runW (o := ⟨some 79, _, _, _, _, _⟩) rfl rfl fun K' hK => ?_
            go_simp
            refine (HMw.out _ B11.out bo cb _ (hRT.ext E11.out)).mono ?_
            rintro e w12 ⟨yc, HY, rfl, hB⟩
            have hS1 := hS0.keep hB
            have B12 := Lib.hid (B11.out.trans (hB.mono B11.out.size))
            have E12 := Lib.hid hB
            clear hB hS0
            have hS0 := hS1
            clear hS1
            refine hK _ _ ⟨hS0, ?_⟩
            clear hK K'
            try simp only [Act.put, List.setIfInBounds_toArray, List.set_cons_zero, List.set_cons_succ]
            have G12 := Lib.hid ((E12.out.block _ (Array.getElem?_eq_some_iff.1 G11.out).1).trans G11.out)
            refine wpAnyH_take (i := 6) (oi := ⟨some 73, _, _, _, _, _⟩) (v := ?_) rfl (by kernel_rfl) (by kernel_rfl) (by kernel_rfl) (fun _ _ _ h => h) (Or.inl ⟨by rfl, ?_⟩) hS0 ?_
            rotate_left
            · (intro w' hSw; clear hSw; go_simp; try (with_reducible rfl))
            simp only [Act.put, List.setIfInBounds_toArray, List.set_cons_zero, List.set_cons_succ]
            refine wpAnyH_take (i := 7) (oi := ⟨some 80, _, _, _, _, _⟩) (v := ?_) rfl (by kernel_rfl) (by kernel_rfl) (by kernel_rfl) (fun _ _ _ h => h) (Or.inl ⟨by rfl, ?_⟩) hS0 ?_
            rotate_left
            · (intro w' hSw; clear hSw; go_simp; try (with_reducible rfl))
            simp only [Act.put, List.setIfInBounds_toArray, List.set_cons_zero, List.set_cons_succ]
            refine wpAnyH_take (i := 8) (oi := ⟨some 81, _, _, _, _, _⟩) (v := ?_) rfl (by kernel_rfl) (by kernel_rfl) (by kernel_rfl) (fun _ _ _ h => h) (Or.inl ⟨by rfl, ?_⟩) hS0 ?_
            rotate_left
            · (intro w' hSw; clear hSw; go_simp; try (with_reducible rfl))
            simp only [Act.put, List.setIfInBounds_toArray, List.set_cons_zero, List.set_cons_succ]
            refine wpAnyH_all (rs := [10]) (by kernel_rfl) (by simp) ?_
            intro i hi
            rw [List.mem_singleton] at hi
            subst hi
            refine wpOp_runW (o := ⟨none, _, _, _, _, _⟩) rfl rfl fun K' hK => ?_
            refine wp_store_row22 _ _ _ rfl (b := g2) rfl rfl G12.out (by rw [HY.out]; rfl) (by rw [HY.out]; exact wk_info22 _) (by rw [HY.out]; simp [wkCs, Value.oneCell']) ?_
            intro w13 hrow hO
            have Hrow := Lib.hid hrow
            have hg2 := Hg.out
            have hS1 := hS0.only hO hg2.1 hg2.2.1
            have B13 := Lib.hid (B12.out.trans (hO.below B12.out.size (fun k hk e => by omega)))
            clear hO hS0 hrow hg2
            have hS0 := hS1
            clear hS1
            refine hK _ _ ⟨hS0, ?_⟩
            clear hK K'
            try simp only [Act.put, List.setIfInBounds_toArray, List.set_cons_zero, List.set_cons_succ]
            refine wpAnyH_take (i := 11) (oi := ⟨some 17, _, _, _, _, _⟩) (v := ?_) rfl (by kernel_rfl) (by kernel_rfl) (by kernel_rfl) (fun _ _ _ h => h) (Or.inl ⟨by rfl, ?_⟩) hS0 ?_
            rotate_left
            · (intro w' hSw; clear hSw; go_simp; try (with_reducible rfl))
            simp only [Act.put, List.setIfInBounds_toArray, List.set_cons_zero, List.set_cons_succ]
            refine wpAnyH_done (by kernel_rfl) ?_ _
            go_wp2_with fail
            go_meet
            exact ⟨g2, rfl, rfl, by rw [← HY.out]; exact Hrow.out, Hg.out.2.2, hS0, B13.out⟩
        · refine wpOp_runW (o := ⟨some 16, _, _, _, _, _⟩) rfl rfl fun K' hK => ?_
          go_simp
          obtain ⟨w10, hw10⟩ : ∃ w', w8.alloc (.cells #[.int .u32 0, .int .u32 0, .int .u32 0, .int .u32 0, .int .u32 0, .int .u32 0, .int .u32 0] 44) = w' := ⟨_, rfl⟩
          rw [hw10]
          have hB : Below w8.heap.size w8 w10 := by rw [← hw10]; exact ext_alloc _ _
          have G10 := Lib.hid (show w10.heap[w8.heap.size]? = some (.cells #[.int .u32 0, .int .u32 0, .int .u32 0, .int .u32 0, .int .u32 0, .int .u32 0, .int .u32 0] 44 (0, 0)) by rw [← hw10]; exact heap_alloc_new _ _)
          have Hg := Lib.hid (show w.heap.size < w8.heap.size ∧ bw < w8.heap.size ∧ w7.heap.size ≤ w8.heap.size from ⟨(Array.getElem?_eq_some_iff.1 hS0.1).1, (Array.getElem?_eq_some_iff.1 hS0.2).1, B8.out.size⟩)
          clear hw10
          generalize w8.heap.size = g2 at G10 Hg ⊢
          have hS1 := hS0.keep hB
          have B10 := Lib.hid (B8.out.trans (hB.mono B8.out.size))
          have E10 := Lib.hid hB
          clear hB hS0
          have hS0 := hS1
          clear hS1
          refine hK _ _ ⟨hS0, ?_⟩
          clear hK K'
          try simp only [Act.put, List.setIfInBounds_toArray, List.set_cons_zero, List.set_cons_succ]
          refine wpAnyH_all (rs := [4]) (by kernel_rfl) (by simp) ?_
          intro i hi
          rw [List.mem_singleton] at hi
          subst hi
          refine wpOp_runW (o := ⟨some 78, _, _, _, _, _⟩) rfl rfl fun K' hK => ?_
          go_simp
          refine (HBd.out _ B10.out).mono ?_
          rintro e w11 ⟨bo, cb, rfl, hRT, hB⟩
          have hS1 := hS0.keep hB
          have B11 := Lib.hid (B10.out.trans (hB.mono B10.out.size))
          have E11 := Lib.hid hB
          clear hB hS0
          have hS0 := hS1
          clear hS1
          refine hK _ _ ⟨hS0, ?_⟩
          clear hK K'
          try simp only [Act.put, List.setIfInBounds_toArray, List.set_cons_zero, List.set_cons_succ]
          have G11 := Lib.hid ((E11.out.block _ (Array.getElem?_eq_some_iff.1 G10.out).1).trans G10.out)
          refine wpAnyH_all (rs := [5]) (by kernel_rfl) (by simp) ?_
          intro i hi
          rw [List.mem_singleton] at hi
          subst hi
          refine wpOp_runW (o := ⟨some 79, _, _, _, _, _⟩) rfl rfl fun K' hK => ?_
          go_simp
          refine (HMw.out _ B11.out bo cb _ hRT).mono ?_
          rintro e w12 ⟨yc, HY, rfl, hB⟩
          have hS1 := hS0.keep hB
          have B12 := Lib.hid (B11.out.trans (hB.mono B11.out.size))
          have E12 := Lib.hid hB
          clear hB hS0
          have hS0 := hS1
          clear hS1
          refine hK _ _ ⟨hS0, ?_⟩
          clear hK K'
          try simp only [Act.put, List.setIfInBounds_toArray, List.set_cons_zero, List.set_cons_succ]
          have G12 := Lib.hid ((E12.out.block _ (Array.getElem?_eq_some_iff.1 G11.out).1).trans G11.out)
          refine wpAnyH_take (i := 6) (oi := ⟨some 73, _, _, _, _, _⟩) (v := ?_) rfl (by kernel_rfl) (by kernel_rfl) (by kernel_rfl) (fun _ _ _ h => h) (Or.inl ⟨by rfl, ?_⟩) hS0 ?_
          rotate_left
          · (intro w' hSw; clear hSw; go_simp; try (with_reducible rfl))
          simp only [Act.put, List.setIfInBounds_toArray, List.set_cons_zero, List.set_cons_succ]
          refine wpAnyH_take (i := 7) (oi := ⟨some 80, _, _, _, _, _⟩) (v := ?_) rfl (by kernel_rfl) (by kernel_rfl) (by kernel_rfl) (fun _ _ _ h => h) (Or.inl ⟨by rfl, ?_⟩) hS0 ?_
          rotate_left
          · (intro w' hSw; clear hSw; go_simp; try (with_reducible rfl))
          simp only [Act.put, List.setIfInBounds_toArray, List.set_cons_zero, List.set_cons_succ]
          refine wpAnyH_take (i := 8) (oi := ⟨some 81, _, _, _, _, _⟩) (v := ?_) rfl (by kernel_rfl) (by kernel_rfl) (by kernel_rfl) (fun _ _ _ h => h) (Or.inl ⟨by rfl, ?_⟩) hS0 ?_
          rotate_left
          · (intro w' hSw; clear hSw; go_simp; try (with_reducible rfl))
          simp only [Act.put, List.setIfInBounds_toArray, List.set_cons_zero, List.set_cons_succ]
          refine wpAnyH_all (rs := [10]) (by kernel_rfl) (by simp) ?_
          intro i hi
          rw [List.mem_singleton] at hi
          subst hi
          refine wpOp_runW (o := ⟨none, _, _, _, _, _⟩) rfl rfl fun K' hK => ?_
          refine wp_store_row22 _ _ _ rfl (b := g2) rfl rfl G12.out (by rw [HY.out]; rfl) (by rw [HY.out]; exact wk_info22 _) (by rw [HY.out]; simp [wkCs, Value.oneCell']) ?_
          intro w13 hrow hO
          have Hrow := Lib.hid hrow
          have hg2 := Hg.out
          have hS1 := hS0.only hO hg2.1 hg2.2.1
          have B13 := Lib.hid (B12.out.trans (hO.below B12.out.size (fun k hk e => by omega)))
          clear hO hS0 hrow hg2
          have hS0 := hS1
          clear hS1
          refine hK _ _ ⟨hS0, ?_⟩
          clear hK K'
          try simp only [Act.put, List.setIfInBounds_toArray, List.set_cons_zero, List.set_cons_succ]
          refine wpAnyH_take (i := 11) (oi := ⟨some 17, _, _, _, _, _⟩) (v := ?_) rfl (by kernel_rfl) (by kernel_rfl) (by kernel_rfl) (fun _ _ _ h => h) (Or.inl ⟨by rfl, ?_⟩) hS0 ?_
          rotate_left
          · (intro w' hSw; clear hSw; go_simp; try (with_reducible rfl))
          simp only [Act.put, List.setIfInBounds_toArray, List.set_cons_zero, List.set_cons_succ]
          refine wpAnyH_done (by kernel_rfl) ?_ _
          go_wp2_with fail
          go_meet
          exact ⟨g2, rfl, rfl, by rw [← HY.out]; exact Hrow.out, Hg.out.2.2, hS0, B13.out⟩
      case rest =>
        obtain ⟨g2, rfl, rfl, hr2, hg2, hS, hB⟩ := hcut
        rename World => w8
        have S8 := Lib.hid hS
        have E8 := Lib.hid (E7.out.trans (hB.mono E7.out.size))
        have B8 := Lib.hid (B7.out.trans (hB.mono B7.out.size))
        have G8 := Lib.hid hr2
        have P8 := Lib.hid (Po.out.ext E8.out)
        have M8 := Lib.hid (Hown.out.ext E8.out)
        clear hS hB hr2 HS7 HMw HBd
        have hmo := HMo.out
        rcases hmo with ⟨e0, hpF⟩ | ⟨e1, hM2, hmu2⟩ | ⟨e2, hM2, hmu2⟩
        · have z1 : ((m.2 : Int) == 0) = true := by rw [e0]; rfl
          have z1' : (m.2 == 0) = true := by rw [e0]; rfl
          rw [HF.out] at hpF
          subst hpF
          have HSm := Lib.hid (vsame15_any p' ao a6 cap pc6 w8 (by omega) M8.out.rd P8.out.rd)
          clear e0
          go_wp2_with (first
            | (go_at_call 15; (with_reducible refine HSm.out.mono ?_); rintro e w10 ⟨rfl, qm, rfl⟩; have B10 := Lib.hid (B8.out.trans ((ext_drewN w8 qm).mono B8.out.size)))
            | (go_at_call 12; (with_reducible refine (HA.out _).mono ?_); rintro e w9 ⟨rfl, hB⟩; have B9 := Lib.hid (B10.out.trans (hB.mono B10.out.size)); clear hB))
          go_ret
          exact ⟨rfl, B9.out⟩
        · have z1 : ((m.2 : Int) == 0) = false := by rw [e1]; rfl
          have z1' : (m.2 == 0) = false := by rw [e1]; rfl
          have z2 : ((m.2 : Int) == 2) = false := by rw [e1]; rfl
          have z2' : (m.2 == 2) = false := by rw [e1]; rfl
          have HM2 := Lib.hid hM2
          have Hmu2 := Lib.hid hmu2
          clear e1 hM2 hmu2
          have HO8 := Lib.hid (HO.out.ext E8.out)
          go_wp2_with (first
            | (refine wpList_load_row rfl _ _ rfl g2 rfl 44 (wkCs m.1) (0, 0) _ G8.out Tryz.underlying44 rfl (wk_info22 _) ?_)
            | (refine wpList_store_row rfl _ _ _ rfl (b := bw) rfl rfl S8.out.2 (Option.some.inj ((wk_info22 m.1).symm.trans HIw.out)) (wk_info22 _) (by simp [wkCs, Value.oneCell']) ?_; intro w10 hrow hO; have Hrow10 := Lib.hid hrow; have HO10 := Lib.hid hO; clear hrow hO))
          go_roundw
          case rel =>
            have hmu := Hmu.out
            have hmu2 := Hmu2.out
            refine ⟨n + 1, p', m.1, ao, cap, g, by go_num, rfl, M8.out.only HO10.out (fun b hb e => by have := HGm.out b hb; omega), HGm.out, HM2.out, HWk.out, by omega, Hrow10.out, (HO10.out.same w.heap.size (Array.getElem?_eq_some_iff.1 S8.out.1).1 (by omega)).trans S8.out.1, HO8.out.trans HO10.out (fun _ _ e => e)⟩
          case measure => simp [intOf]; omega
        · have z1 : ((m.2 : Int) == 0) = false := by rw [e2]; rfl
          have z1' : (m.2 == 0) = false := by rw [e2]; rfl
          have z2 : ((m.2 : Int) == 2) = true := by rw [e2]; rfl
          have z2' : (m.2 == 2) = true := by rw [e2]; rfl
          have hpl := mov_len HM.out
          have HM2 := Lib.hid hM2
          have Hmu2 := Lib.hid hmu2
          have HO8 := Lib.hid (HO.out.ext E8.out)
          have hE := u32sElem
          have k8 := (wk_cells G8.out).2.2.1
          have HgS := Lib.hid (show ∀ k, g = some k → w6.heap.size ≤ k ∧ k < wo.heap.size from fun k h => ⟨HGm.out k h, Hown.out.lt k h⟩)
          have hz7 := E7.out.size
          have hzo := HO.out.size
          have hz8 := E8.out.size
          have hw8 : w.heap.size < w8.heap.size := (Array.getElem?_eq_some_iff.1 S8.out.1).1
          have hw8b : bw < w8.heap.size := (Array.getElem?_eq_some_iff.1 S8.out.2).1
          have hw8g : g2 < w8.heap.size := (Array.getElem?_eq_some_iff.1 G8.out).1
          obtain ⟨nv, hnv⟩ : ∃ nv, m.1.at_ = nv := ⟨_, rfl⟩
          rw [hnv] at k8 HM2
          clear e2 hM2 hmu2 hnv
          go_upto_region 21 with (at_builtin; refine wpList_app rfl (.tmp 92) (.tmp 95) 25 25 rfl hE (M8.out.alloc _) rfl rfl (srcOne Tryz.underlying25 _ _ _ _ rfl) (by simp [maxLen]; omega) (by omega) ?_; intro ao3 cap3 g3 w9 ho3 hg3 hon3; have hon4 : Only (fun k => g = some k) w8 w9 := ((Only.refl (fun k => g = some k) w8).alloc _).trans hon3 (fun _ _ h => h); have Ho3 := Lib.hid ho3; have HG3 := Lib.hid (show ∀ k, g3 = some k → w6.heap.size ≤ k from fun k h => by rcases hg3 with e | e <;> rw [e] at h; exact HGm.out k h; cases h; simp; omega); have S9 := Lib.hid (show VRows w.heap.size bw jc wkc w9 from ⟨(hon4.same _ hw8 (fun e => by have := HgS.out _ e; omega)).trans S8.out.1, (hon4.same _ hw8b (fun e => by have := HgS.out _ e; omega)).trans S8.out.2⟩); have G9 := Lib.hid ((hon4.same _ hw8g (fun e => by have := HgS.out _ e; omega)).trans G8.out); have HO9 := Lib.hid (HO8.out.trans hon4 (fun k hk e => by have := HgS.out k e; omega)); clear ho3 hg3 hon3 hon4)
          go_wp2_with (first
            | (refine wpList_load_row rfl _ _ rfl g2 rfl 44 (wkCs m.1) (0, 0) _ G9.out Tryz.underlying44 rfl (wk_info22 _) ?_)
            | (refine wpList_store_row rfl _ _ _ rfl (b := bw) rfl rfl S9.out.2 (Option.some.inj ((wk_info22 m.1).symm.trans HIw.out)) (wk_info22 _) (by simp [wkCs, Value.oneCell']) ?_; intro w10 hrow hO; have Hrow10 := Lib.hid hrow; have HO10 := Lib.hid hO; clear hrow hO))
          go_roundw
          case rel =>
            have hmu := Hmu.out
            have hmu2 := Hmu2.out
            have hlen : (p' ++ [nv]).length = p'.length + 1 := by simp
            refine ⟨n + 1, p' ++ [nv], m.1, ao3, cap3, g3, by go_num, by rw [hlen], ?_, HG3.out, HM2.out, HWk.out, by omega, Hrow10.out, (HO10.out.same w.heap.size (Array.getElem?_eq_some_iff.1 S9.out.1).1 (by omega)).trans S9.out.1, HO9.out.trans HO10.out (fun _ _ e => e)⟩
            have h := Ho3.out.only HO10.out (fun b hb e => by have := HG3.out b hb; omega)
            rw [hlen]
            rw [show u32s (p' ++ [nv]) = u32s p' ++ [.int .u32 (nv : Nat)] by simp [u32s]]
            exact h
          case measure => simp [intOf]; omega
end Go.Proofs.YtcklfffeimnfeaaGreat
