/- Texts merged into one: WlkGoes, WlkPath, SortLay, SortKeys, GraphOf. -/
import Derived.Test.YtcklfffeimnfeaaGreatBx20
import Derived.Test.YtcklfffeimnfeaaGreatBx17
import Derived.Shelf.SlSortCmp.Whole1
import Derived.Test.YtcklfffeimnfeaaGreatProg
import Derived.Test.YtcklfffeimnfeaaGreatBx04
import Derived.Test.YtcklfffeimnfeaaGreatBx14
import Derived.Test.YtcklfffeimnfeaaGreatBx19
set_option maxRecDepth 100000
set_option maxHeartbeats 12800000
set_option linter.unusedSimpArgs false
set_option linter.unusedVariables false
namespace Go.Proofs.YtcklfffeimnfeaaGreat
open Go.RowKit

theorem tab_rd {w : World} {bt n cap : Nat} {T : List CellD} (h : Own w (some ⟨bt, 0, none⟩) cap (some bt) 108 2 n (cellsOf T)) (hn : T.length = n) (hT : ∀ c ∈ T, okC c) : RdS cellRep (fun b => b = bt) w (some ⟨bt, 0, none⟩) T := by
  have hS : OwnS cellRep (fun _ => False) w (some ⟨bt, 0, none⟩) cap (some bt) 108 T := ⟨T.map cellCs, by rw [hn]; exact h, all2_cells hT⟩
  exact hS.rd.mono (fun b hb _ => hb.elim (fun e => e.elim) (fun e => (Option.some.inj e).symm))
theorem abuild_nil (ao : Option Addr) (cap : Nat) (w : World) :
    Calls Tryz.prog 68 #[.slice ao 0 cap] w (RetB (.tuple #[.slice none 0 0, .int .i64 3]) w) := by
  go_enter Tryz.func68, Tryz.ntmps68
  go_wp2_with fail
  go_step3
  go_wp2_with fail
  try rw [Exit.noGoto_ret]
  go_ret2
  exact ⟨rfl, Below.refl _ _⟩
section
variable {g : Nat} {gp : Value} {j : JobD} {id : Nat} {ao : Option Addr} {cap : Nat} {go : Option Nat} {path : List Nat} {w : World}
/-- the path grows -/
theorem WlS.push (h : WlS g gp j id ao cap go path w) (hn : path.length < 100000) {w1 w2 : World} (hB : Below w.heap.size w w1) {v : Nat} {ao2 : Option Addr} {cap2 : Nat} {g2 : Option Nat} (ho : Own w2 ao2 cap2 g2 24 1 (path.length + 1) (u32s path ++ [.int .u32 (v : Nat)]))
    (hg : g2 = go ∨ g2 = some w1.heap.size) (hon : Only (fun k => go = some k) w1 w2) :
    WlS g gp j id ao2 cap2 g2 (path ++ [v]) (w2.setCell ⟨g, 17, none⟩ (.slice ao2 (path.length + 1) cap2)) ∧ Only (fun k => k = g ∨ go = some k) w (w2.setCell ⟨g, 17, none⟩ (.slice ao2 (path.length + 1) cap2)) ∧ (∀ k, g2 = some k → go = some k ∨ w.heap.size ≤ k) := by
  have hgl := h.lt
  have hsz := hB.size
  have hgw : g < w1.heap.size := by omega
  have hb : w2.heap[g]? = w.heap[g]? := (hon.same g hgw h.ne).trans (hB.block g hgl)
  have k := fun i => World.cell?_of_block (w := w) (w' := w2) (a := ⟨g, i, none⟩) hb
  have f := fun i => World.frozen?_of_block (w := w) (w' := w2) (a := ⟨g, i, none⟩) hb
  have hg2 : g2 ≠ some g := fun e => by
    rcases hg with h1 | h1
    · exact h.ne (h1 ▸ e)
    · rw [h1] at e; have := Option.some.inj e; omega
  have st : ∀ i, i ≠ 17 → (w2.setCell ⟨g, 17, none⟩ (.slice ao2 (path.length + 1) cap2)).cell? ⟨g, i, none⟩ = w.cell? ⟨g, i, none⟩ := fun i hi => by
    rw [← k i]
    simp only [cell_set_ite]
    simp
    intro e; exact absurd e hi
  refine ⟨⟨(st 0 (by decide)).trans h.c0, (st 1 (by decide)).trans h.c1, (st 2 (by decide)).trans h.c2, (st 3 (by decide)).trans h.c3, (st 6 (by decide)).trans h.c6, (st 7 (by decide)).trans h.c7, (st 8 (by decide)).trans h.c8, (st 9 (by decide)).trans h.c9, (st 10 (by decide)).trans h.c10, (st 16 (by decide)).trans h.c16, ?_, fun i => ?_, ?_, hg2, by simp, by simp; omega⟩, ?_, fun q hq => ?_⟩
  · simp only [cell_set_ite, List.length_append, List.length_singleton]
    simp [k 17, h.c17]
  · rw [World.frozen?_setCell, f i]; exact h.fr i
  · rw [List.length_append, List.length_singleton, show u32s (path ++ [v]) = u32s path ++ [.int .u32 (v : Nat)] by simp [u32s]]
    exact ho.setCell (p := ⟨g, 17, none⟩) (fun b hb e => hg2 (by rw [hb, e])) _
  · exact (((Only.of_below (fp := fun k => k = g ∨ go = some k) hB).trans hon (fun _ _ e => .inr e))).setCell (fun _ => .inl rfl) _
  · rcases hg with h1 | h1
    · exact .inl (h1 ▸ hq)
    · rw [h1] at hq; have := Option.some.inj hq; exact .inr (by omega)
end
section
variable {g : Nat} {gp : Value} {j : JobD} {id : Nat} {ao : Option Addr} {cap : Nat} {go : Option Nat} {path : List Nat} {w : World}
theorem WlS.room (h : WlS g gp j id ao cap go path w) {w1 w2 : World} (hB : Below w.heap.size w w1) (hon : Only (fun k => go = some k) w1 w2) :
    w2.cell? ⟨g, 17, none⟩ = some (.slice ao path.length cap) ∧ w2.frozen? ⟨g, 17, none⟩ = false := by
  have hgl := h.lt
  have hsz := hB.size
  have hb : w2.heap[g]? = w.heap[g]? := (hon.same g (by omega) h.ne).trans (hB.block g hgl)
  exact ⟨(World.cell?_of_block (w := w) (w' := w2) (a := ⟨g, 17, none⟩) hb).trans h.c17, (World.frozen?_of_block (w := w) (w' := w2) (a := ⟨g, 17, none⟩) hb).trans (h.fr 17)⟩
end
/-- what goes leaves -/
def GoesRet (R : List RowD) (g : Nat) (p : Option Nat) (j : JobD) (id : Nat) (go : Option Nat) (path : List Nat) (w : World) (e : Ending) (w' : World) : Prop :=
  (∃ v, e = .returned v) ∧ ∃ ao' cap' go', WlS g (gV p) j id ao' cap' go' (walkW R j id j.length path) w' ∧ Only (fun k => k = g ∨ go = some k) w w' ∧ (∀ k, go' = some k → go = some k ∨ w.heap.size ≤ k)
def goI (R : List RowD) (g : Nat) (p : Option Nat) (j : JobD) (id : Nat) (go0 : Option Nat) (path0 : List Nat) (w : World) (v12 : Value) (wr : World) : Prop :=
  ∃ (n : Nat) (ao : Option Addr) (cap : Nat) (go : Option Nat) (path : List Nat), v12 = .int .u32 (n : Nat) ∧ n ≤ j.length ∧ WlS g (gV p) j id ao cap go path wr ∧ walkW R j id (j.length - n) path = walkW R j id j.length path0 ∧ path.length ≤ path0.length + n ∧
    Only (fun k => k = g ∨ go0 = some k) w wr ∧ (∀ k, go = some k → go0 = some k ∨ w.heap.size ≤ k)
def goJ (near : Nat → Nat → Bool) (l : List ArcD) (j : JobD) (id : Nat) (path : List Nat) (w3 : World) (v51 : Value) (wi : World) : Prop :=
  ∃ t : Nat, v51 = .int .u64 (t : Nat) ∧ t ≤ j.tries ∧ Below w3.heap.size w3 wi ∧ triesW near l j id path (j.tries - t) t = triesW near l j id path j.tries 0
attribute [local go_sem] Oper.semAt_some
theorem wgoes_any {g : Nat} {p : Option Nat} {j : JobD} {id : Nat} {ao : Option Addr} {cap : Nat} {go : Option Nat} {path : List Nat} {w : World} (h : WlS g (gV p) j id ao cap go path w) (hid : id < 4294967296) (hj : JobOk j) (hjl : j.length ≤ 65536) (hp1 : path.length ≤ 10)
    (R : List RowD) (gfp : Nat → Prop) (hR : okG R) (hl : R.length ≤ 1000) (ha : ∀ r ∈ R, r.2.length ≤ 1000) (hg : GraphIs w gfp p R) (hgf : ∀ b, gfp b → b < w.heap.size ∧ b ≠ g ∧ go ≠ some b) :
    Calls Tryz.prog 34 #[.pointer (some ⟨g, 0, none⟩)] w (GoesRet R g p j id go path w) := by
  have hE := u32sElem
  have hrw : R.Pairwise (fun a b => a.1 < b.1) := hR.1.1
  have hmay := hR.may
  have hrp : ∀ r ∈ R, r.2.length ≤ 100000 ∧ r.2.Pairwise (fun a b => a.1 < b.1) := fun r hr => ⟨by have := ha r hr; omega, (of_decide_eq_true (hmay r hr).1).2.1⟩
  have Hoka := Lib.hid (fun r hr => (hR.2 r hr).2.1)
  have Harc := Lib.hid (fun v => arcs15_mem (R := R) (v := v))
  have HI0 : Hid (goI R g p j id go path w (.int .u32 0) w) := ⟨0, ao, cap, go, path, rfl, Nat.zero_le _, h, by rw [Nat.sub_zero], Nat.le_refl _, Only.refl _ _, fun k hk => .inl hk⟩
  have c3 := h.c3
  have Hg := Lib.hid hg
  have Hgf := Lib.hid hgf
  have Hj := Lib.hid hj
  have Ha := Lib.hid ha
  have Hmay := Lib.hid hmay
  have Hrp := Lib.hid hrp
  have Hrw := Lib.hid hrw
  have hgl := h.lt
  have htr := hj.tries
  obtain ⟨L, hL⟩ : ∃ L, j.length = L := ⟨_, rfl⟩
  rw [hL] at c3 hjl
  have HLe := Lib.hid hL
  clear h hg hgf hj ha hmay hrp hrw hR hL
  go_enter Tryz.func34, Tryz.ntmps34
  go_wp2_with fail
  go_step3
  go_wp2_with fail
  go_step3
  go_wp2_with fail
  clear c3
  go_loopw [12] (fun v12 wr => goI R g p j id go path w v12 wr) (fun v12 _ => L - (intOf v12).toNat)
  case atStart => exact HI0.out
  case round =>
    obtain ⟨n, ao1, cap1, go1, pth, rfl, hn, hW, hwk, hpl, hon, hgo⟩ := hrel
    rw [HLe.out] at hn
    rename World => wo
    by_cases hlt : n < L
    · have dn : decide ((n : Int) < (L : Int)) = true := by simp; omega
      have dn2 : decide (n < L) = true := by simp; omega
      have hps := hW.pos
      have hWg := hW.lt
      obtain ⟨b0, rfl, hgo1, hb0, hc0⟩ := hW.get (k := 0) hps
      obtain ⟨v0, hv0⟩ : ∃ v0, pth[0]! = v0 := ⟨_, rfl⟩
      obtain ⟨v, hv⟩ : ∃ v, pth[pth.length - 1]! = v := ⟨_, rfl⟩
      rw [hv0] at hc0
      have HGo := Lib.hid (Hg.out.only hon (fun b hb _ e => e.elim (Hgf.out b hb).2.1 (fun e => (Hgf.out b hb).2.2 e)))
      have HAt := Lib.hid (fun W (hB : Below wo.heap.size wo W) => (show Calls Tryz.prog 67 #[.pointer (some ⟨g, 0, none⟩), .int .i64 0] W (RetB (.int .u32 (v : Nat)) W) from by rw [← hv]; exact wat_any (hW.ext hB) 0 hps))
      have HArcs := Lib.hid (fun W (hB : Below wo.heap.size wo W) => garcs_any p R v gfp W (by omega) (fun r hr => (Hrp.out r hr).1) Hrw.out (HGo.out.ext hB))
      have HBack := Lib.hid (fun W (hB : Below wo.heap.size wo W) => wback_any (hW.ext hB) hid Hj.out)
      have HC0 := Lib.hid (fun W (hB : Below wo.heap.size wo W) => (hW.ext hB).c0)
      have HW := Lib.hid hW
      have Hon := Lib.hid hon
      have Hgo := Lib.hid hgo
      have Hwk := Lib.hid hwk
      have Hgo1 := Lib.hid hgo1
      have Hv := Lib.hid hv
      have Hv0 := Lib.hid hv0
      have x0 := HC0.out _ (ext_drew wo)
      obtain ⟨gv, hgv⟩ : ∃ gv, gV p = gv := ⟨_, rfl⟩
      rw [hgv] at HArcs HC0 x0
      clear hW hon hgo hwk hgo1 hv hv0 hgv
      have hnx := Lib.hid (show walkW R j id (L - n) pth = match nextW R j id pth with
        | some v => walkW R j id (L - n - 1) (pth ++ [v])
        | none => pth by rw [show L - n = (L - n - 1) + 1 by omega]; rfl)
      have Hstep := Lib.hid (fun u (hu : nextW R j id pth = some u) => (show walkW R j id (L - (n + 1)) (pth ++ [u]) = walkW R j id L path by
        have h1 := Hwk.out
        rw [HLe.out] at h1
        rw [← h1, hnx.out, hu, Nat.sub_sub]))
      have Hstop := Lib.hid (fun (hu : nextW R j id pth = none) => (show walkW R j id L path = pth by
        have h1 := Hwk.out
        rw [HLe.out] at h1
        rw [← h1, hnx.out, hu]))
      go_wp2_with fail
      go_region_held3 (fun w' => w'.cell? ⟨g, 0, none⟩ = some gv) (first | exact x0 | exact x1 | exact x2)
        (first
          | (go_at_call 67; (with_reducible refine (HAt.out _ (ext_drew wo)).mono ?_); rintro e w1 ⟨rfl, hB⟩; have B1 := Lib.hid ((ext_drew wo).trans (hB.mono (ext_drew wo).size)); have x1 := HC0.out _ B1.out; clear hB)
          | (go_at_call 19; (with_reducible refine (HArcs.out _ B1.out).mono ?_); rintro e w2 ⟨aa, ac, ag, rfl, hOS, hag, hB⟩; have B2 := Lib.hid (B1.out.trans (hB.mono B1.out.size)); have x2 := HC0.out _ B2.out; have HOS := Lib.hid hOS; have Hag := Lib.hid hag; clear hB hOS hag)
          | fail "no arm")
      clear x0 x1 x2 HAt HArcs
      have Hl := Lib.hid (Harc.out v)
      obtain ⟨l, hle⟩ : ∃ l, arcs15M R v = l := ⟨_, rfl⟩
      rw [hle] at HOS Hl ⊢
      have Hle := Lib.hid hle
      clear hle
      by_cases hne : l = []
      · subst hne
        have Hend := Lib.hid (Hstop.out (by unfold nextW; rw [Hv.out, Hle.out, if_pos rfl]))
        go_wp2_with (go_at_call 68; (with_reducible refine (abuild_nil _ _ _).mono ?_); rintro e w3 ⟨rfl, hB⟩; have B3 := Lib.hid (B2.out.trans (hB.mono B2.out.size)); clear hB)
        go_end0
        exact ⟨⟨_, rfl⟩, _, cap1, go1, by rw [HLe.out, Hend.out]; exact HW.out.ext B3.out, Hon.out.ext B3.out, Hgo.out⟩
      · obtain ⟨r, hr, hrv, hlr⟩ := Hl.out.resolve_left hne
        have hm : mayA l = true := by rw [hlr]; exact (Hmay.out r hr).1
        have hll : l.length ≤ 1000 := by rw [hlr]; exact Ha.out r hr
        have Hal := Lib.hid (show ∀ a ∈ l, okA a by rw [hlr]; exact Hoka.out r hr)
        have hrd : RdS arcRep (fun k => False ∨ ag = some k) w2 aa l := HOS.out.rd
        have hTl : (buildT (l.map (·.2))).length = l.length := by rw [(buildT_right (l.map (·.2))).1, List.length_map]
        have Hok := Lib.hid (show ∀ c ∈ buildT (l.map (·.2)), okC c from fun c hc => by
          obtain ⟨i, hi⟩ := List.mem_iff_getElem?.1 hc
          obtain ⟨h1, h2⟩ := (buildT_right (l.map (·.2))).2.1 i c hi
          have h3 : (l.map (·.2)).sum ≤ 2147483647 := (of_decide_eq_true hm).2.2
          rw [List.length_map] at h2
          exact ⟨by omega, by omega⟩)
        have HBd := Lib.hid (abuild_any l aa ac _ w2 hll hne hm hrd)
        have Hrd := Lib.hid hrd
        have Hfl := Lib.hid (fun k (h : False ∨ ag = some k) => (show k < w2.heap.size from h.elim (fun e => e.elim) (fun e => by
          obtain ⟨css, h1, _⟩ := HOS.out
          exact h1.lt k e)))
        have HTl := Lib.hid hTl
        clear hlr hrv hr hrd HOS Hag Hl hTl
        cases hbk : backW j id (pth.length - 1) with
        | true =>
          rw [hbk] at HBack
          have Hnext := Lib.hid (show nextW R j id pth = some v0 by unfold nextW; rw [Hv.out, Hle.out, if_neg hne, hbk, if_pos rfl, Hv0.out])
          have hir : (0 : Int) < (pth.length : Int) := by omega
          go_wp2_with (first
            | (go_at_call 68; (with_reducible refine HBd.out.mono ?_); rintro e w3 ⟨bt, rfl, hO, hbt, hB⟩; have B3 := Lib.hid (B2.out.trans (hB.mono B2.out.size)); clear hO hbt hB)
            | (go_at_call 69; (with_reducible refine (HBack.out _ B3.out).mono ?_); rintro e w4 ⟨rfl, hB⟩; have B4 := Lib.hid (B3.out.trans (hB.mono B3.out.size)); clear hB))
          obtain ⟨wd, hwd⟩ : ∃ wd, w4.drew = wd := ⟨_, rfl⟩
          have hB4d : Below wo.heap.size wo wd := by rw [← hwd]; exact B4.out.trans ((ext_drew w4).mono B4.out.size)
          have HB4d := Lib.hid hB4d
          have HW4 := Lib.hid (HW.out.ext hB4d)
          have Hc17 := Lib.hid (fun W (hB : Below wd.heap.size wd W) => (HW4.out.ext hB).c17)
          have Hcb := Lib.hid (((bcell hB4d).1 b0 0 hb0).trans hc0)
          refine wp_region_held (S := fun _ => True) (by kernel_rfl) ?_
          change wpAnyH _ _ _ _ _ _ _ _ (World.drew _)
          rw [hwd]
          clear hB4d hwd
          refine wpAnyH_take (i := 0) (oi := ⟨some 30, _, _, _, _, _⟩) (v := ?_) rfl (by kernel_rfl) (by kernel_rfl) (by kernel_rfl) (fun _ _ _ h => h) (Or.inl ⟨by rfl, ?_⟩) trivial ?_
          rotate_left
          · (intro w' _; go_simp; try (with_reducible rfl))
          simp only [Act.put, List.setIfInBounds_toArray, List.set_cons_zero, List.set_cons_succ]
          refine wpAnyH_take (i := 1) (oi := ⟨some 31, _, _, _, _, _⟩) (v := ?_) rfl (by kernel_rfl) (by kernel_rfl) (by kernel_rfl) (fun _ _ _ h => h) (Or.inl ⟨by rfl, ?_⟩) trivial ?_
          rotate_left
          · (intro w' _; go_simp; try (with_reducible rfl))
          simp only [Act.put, List.setIfInBounds_toArray, List.set_cons_zero, List.set_cons_succ]
          refine wpAnyH_take (i := 2) (oi := ⟨some 32, _, _, _, _, _⟩) (v := ?_) rfl (by kernel_rfl) (by kernel_rfl) (by kernel_rfl) (fun _ _ _ h => h) (Or.inl ⟨by rfl, ?_⟩) trivial ?_
          rotate_left
          · (intro w' _; go_simp; try (with_reducible rfl))
          simp only [Act.put, List.setIfInBounds_toArray, List.set_cons_zero, List.set_cons_succ]
          refine wpAnyH_take (i := 3) (oi := ⟨some 33, _, _, _, _, _⟩) (v := ?_) rfl (by kernel_rfl) (by kernel_rfl) (by kernel_rfl) (fun _ _ _ h => h) (Or.inl ⟨by rfl, ?_⟩) trivial ?_
          rotate_left
          · (intro w' _; go_simp; try (with_reducible rfl))
          simp only [Act.put, List.setIfInBounds_toArray, List.set_cons_zero, List.set_cons_succ]
          refine wpAnyH_take (i := 5) (oi := ⟨some 35, _, _, _, _, _⟩) (v := ?_) rfl (by kernel_rfl) (by kernel_rfl) (by kernel_rfl) (fun _ _ _ h => h) (Or.inl ⟨by rfl, ?_⟩) trivial ?_
          rotate_left
          · (intro w' _; go_simp; try (with_reducible rfl))
          simp only [Act.put, List.setIfInBounds_toArray, List.set_cons_zero, List.set_cons_succ]
          refine wpAnyH_take (i := 6) (oi := ⟨some 36, _, _, _, _, _⟩) (v := ?_) rfl (by kernel_rfl) (by kernel_rfl) (by kernel_rfl) (fun _ _ _ h => h) (Or.inl ⟨by rfl, ?_⟩) trivial ?_
          rotate_left
          · (intro w' _; go_simp; try (with_reducible rfl))
          simp only [Act.put, List.setIfInBounds_toArray, List.set_cons_zero, List.set_cons_succ]
          refine wpAnyH_take (i := 7) (oi := ⟨some 37, _, _, _, _, _⟩) (v := ?_) rfl (by kernel_rfl) (by kernel_rfl) (by kernel_rfl) (fun _ _ _ h => h) (Or.inl ⟨by rfl, ?_⟩) trivial ?_
          rotate_left
          · (intro w' _; go_simp; try (with_reducible rfl))
          simp only [Act.put, List.setIfInBounds_toArray, List.set_cons_zero, List.set_cons_succ]
          refine wpAnyH_all (rs := [4, 8]) (by kernel_rfl) (by simp) ?_
          intro i hi
          rcases (by simpa using hi : i = 4 ∨ i = 8) with rfl | rfl
          · refine wpOp_runG (o := ⟨some 34, _, _, _, _, _⟩) rfl rfl fun K' hK => ?_
            have hgc := Hc17.out _ (Below.refl _ _)
            go_simp
            clear hgc
            refine hK _ _ ⟨trivial, ?_⟩
            clear hK K'
            try simp only [Act.put, List.setIfInBounds_toArray, List.set_cons_zero, List.set_cons_succ]
            refine wpAnyH_all (rs := [8]) (by kernel_rfl) (by simp) ?_
            intro i hi
            rw [List.mem_singleton] at hi
            subst hi
            refine wpOp_runG (o := ⟨some 38, _, _, _, _, _⟩) rfl rfl fun K' hK => ?_
            have hgc := Hc17.out _ (Below.refl _ _)
            go_simp
            clear hgc
            refine hK _ _ ⟨trivial, ?_⟩
            clear hK K'
            try simp only [Act.put, List.setIfInBounds_toArray, List.set_cons_zero, List.set_cons_succ]
            refine wpAnyH_take (i := 9) (oi := ⟨some 39, _, _, _, _, _⟩) (v := ?_) rfl (by kernel_rfl) (by kernel_rfl) (by kernel_rfl) (fun _ _ _ h => h) (Or.inl ⟨by rfl, ?_⟩) trivial ?_
            rotate_left
            · (intro w' _; go_simp; try (with_reducible rfl))
            simp only [Act.put, List.setIfInBounds_toArray, List.set_cons_zero, List.set_cons_succ]
            refine wpAnyH_all (rs := [10]) (by kernel_rfl) (by simp) ?_
            intro i hi
            rw [List.mem_singleton] at hi
            subst hi
            refine wpOp_runG (o := ⟨some 40, _, _, _, _, _⟩) rfl rfl fun K' hK => ?_
            have hgc := Hcb.out
            go_simp
            clear hgc
            refine hK _ _ ⟨trivial, ?_⟩
            clear hK K'
            try simp only [Act.put, List.setIfInBounds_toArray, List.set_cons_zero, List.set_cons_succ]
            refine wpAnyH_all (rs := [11]) (by kernel_rfl) (by simp) ?_
            intro i hi
            rw [List.mem_singleton] at hi
            subst hi
            refine wpOp_runG (o := ⟨some 41, _, _, _, _, _⟩) rfl rfl fun K' hK => ?_
            go_simp
            obtain ⟨wa, hwa⟩ : ∃ w', wd.alloc (.cells #[.int .u32 (v0 : Nat)] 24) = w' := ⟨_, rfl⟩
            have HSr := Lib.hid (show Src Tryz.prog 1 25 (.slice (some ⟨wd.heap.size, 0, none⟩) 1 1) 1 [.int .u32 (v0 : Nat)] wa by rw [← hwa]; exact srcOne Tryz.underlying25 wd _ _ _ rfl)
            have HEA := Lib.hid (show Below wd.heap.size wd wa by rw [← hwa]; exact ext_alloc _ _)
            rw [hwa]
            clear hwa
            refine hK _ _ ⟨trivial, ?_⟩
            clear hK K'
            try simp only [Act.put, List.setIfInBounds_toArray, List.set_cons_zero, List.set_cons_succ]
            refine wpAnyH_all (rs := [12]) (by kernel_rfl) (by simp) ?_
            intro i hi
            rw [List.mem_singleton] at hi
            subst hi
            refine wpOp_runG (o := ⟨some 42, _, _, _, _, _⟩) rfl rfl fun K' hK => ?_
            refine wp_app (.tmp 34) (.tmp 41) 25 25 rfl hE (HW4.out.own.ext HEA.out) rfl rfl HSr.out (by simp [maxLen]; omega) (by omega) ?_
            intro ao9 cap9 g9 w9 ho9 hg9 hon9
            obtain ⟨k1, k2⟩ := HW4.out.room HEA.out hon9
            have Ho9 := Lib.hid ho9
            have Hg9 := Lib.hid hg9
            have Hon9 := Lib.hid hon9
            clear ho9 hg9 hon9
            refine hK _ _ ⟨trivial, ?_⟩
            clear hK K'
            try simp only [Act.put, List.setIfInBounds_toArray, List.set_cons_zero, List.set_cons_succ]
            refine wpAnyH_take (i := 13) (oi := ⟨some 43, _, _, _, _, _⟩) (v := ?_) rfl (by kernel_rfl) (by kernel_rfl) (by kernel_rfl) (fun _ _ _ h => h) (Or.inl ⟨by rfl, ?_⟩) trivial ?_
            rotate_left
            · (intro w' _; go_simp; try (with_reducible rfl))
            simp only [Act.put, List.setIfInBounds_toArray, List.set_cons_zero, List.set_cons_succ]
            refine wpAnyH_take (i := 14) (oi := ⟨some 44, _, _, _, _, _⟩) (v := ?_) rfl (by kernel_rfl) (by kernel_rfl) (by kernel_rfl) (fun _ _ _ h => h) (Or.inl ⟨by rfl, ?_⟩) trivial ?_
            rotate_left
            · (intro w' _; go_simp; try (with_reducible rfl))
            simp only [Act.put, List.setIfInBounds_toArray, List.set_cons_zero, List.set_cons_succ]
            refine wpAnyH_all (rs := [15]) (by kernel_rfl) (by simp) ?_
            intro i hi
            rw [List.mem_singleton] at hi
            subst hi
            refine wpOp_runG (o := ⟨none, _, _, _, _, _⟩) rfl rfl fun K' hK => ?_
            go_simp
            refine hK _ _ ⟨trivial, ?_⟩
            clear hK K'
            try simp only [Act.put, List.setIfInBounds_toArray, List.set_cons_zero, List.set_cons_succ]
            refine wpAnyH_done (by kernel_rfl) ?_ _
            go_wp2_with fail
            go_roundw
            case rel =>
              obtain ⟨hP, hPo, hPg⟩ := HW4.out.push (by omega) (HEA.out) Ho9.out Hg9.out Hon9.out
              refine ⟨n + 1, ao9, cap9, g9, pth ++ [v0], by go_num, by rw [HLe.out]; omega, hP, by rw [HLe.out]; exact Hstep.out v0 Hnext.out, by rw [List.length_append, List.length_singleton]; omega, ?_, fun k hk => ?_⟩
              · exact (Hon.out.ext HB4d.out).trans hPo (fun i hi e => e.elim .inl (fun e => (Hgo.out i e).elim .inr (fun h => by omega)))
              · rcases hPg k hk with h | h
                · exact Hgo.out k h
                · have h1 := (HB4d.out).size
                  have h2 := Hon.out.size
                  exact .inr (by omega)
            case measure => simp [intOf]; omega
          · refine wpOp_runG (o := ⟨some 38, _, _, _, _, _⟩) rfl rfl fun K' hK => ?_
            have hgc := Hc17.out _ (Below.refl _ _)
            go_simp
            clear hgc
            refine hK _ _ ⟨trivial, ?_⟩
            clear hK K'
            try simp only [Act.put, List.setIfInBounds_toArray, List.set_cons_zero, List.set_cons_succ]
            refine wpAnyH_take (i := 9) (oi := ⟨some 39, _, _, _, _, _⟩) (v := ?_) rfl (by kernel_rfl) (by kernel_rfl) (by kernel_rfl) (fun _ _ _ h => h) (Or.inl ⟨by rfl, ?_⟩) trivial ?_
            rotate_left
            · (intro w' _; go_simp; try (with_reducible rfl))
            simp only [Act.put, List.setIfInBounds_toArray, List.set_cons_zero, List.set_cons_succ]
            refine wpAnyH_all (rs := [4, 10]) (by kernel_rfl) (by simp) ?_
            intro i hi
            rcases (by simpa using hi : i = 4 ∨ i = 10) with rfl | rfl
            · refine wpOp_runG (o := ⟨some 34, _, _, _, _, _⟩) rfl rfl fun K' hK => ?_
              have hgc := Hc17.out _ (Below.refl _ _)
              go_simp
              clear hgc
              refine hK _ _ ⟨trivial, ?_⟩
              clear hK K'
              try simp only [Act.put, List.setIfInBounds_toArray, List.set_cons_zero, List.set_cons_succ]
              refine wpAnyH_all (rs := [10]) (by kernel_rfl) (by simp) ?_
              intro i hi
              rw [List.mem_singleton] at hi
              subst hi
              refine wpOp_runG (o := ⟨some 40, _, _, _, _, _⟩) rfl rfl fun K' hK => ?_
              have hgc := Hcb.out
              go_simp
              clear hgc
              refine hK _ _ ⟨trivial, ?_⟩
              clear hK K'
              try simp only [Act.put, List.setIfInBounds_toArray, List.set_cons_zero, List.set_cons_succ]
              refine wpAnyH_all (rs := [11]) (by kernel_rfl) (by simp) ?_
              intro i hi
              rw [List.mem_singleton] at hi
              subst hi
              refine wpOp_runG (o := ⟨some 41, _, _, _, _, _⟩) rfl rfl fun K' hK => ?_
              go_simp
              obtain ⟨wa, hwa⟩ : ∃ w', wd.alloc (.cells #[.int .u32 (v0 : Nat)] 24) = w' := ⟨_, rfl⟩
              have HSr := Lib.hid (show Src Tryz.prog 1 25 (.slice (some ⟨wd.heap.size, 0, none⟩) 1 1) 1 [.int .u32 (v0 : Nat)] wa by rw [← hwa]; exact srcOne Tryz.underlying25 wd _ _ _ rfl)
              have HEA := Lib.hid (show Below wd.heap.size wd wa by rw [← hwa]; exact ext_alloc _ _)
              rw [hwa]
              clear hwa
              refine hK _ _ ⟨trivial, ?_⟩
              clear hK K'
              try simp only [Act.put, List.setIfInBounds_toArray, List.set_cons_zero, List.set_cons_succ]
              refine wpAnyH_all (rs := [12]) (by kernel_rfl) (by simp) ?_
              intro i hi
              rw [List.mem_singleton] at hi
              subst hi
              refine wpOp_runG (o := ⟨some 42, _, _, _, _, _⟩) rfl rfl fun K' hK => ?_
              refine wp_app (.tmp 34) (.tmp 41) 25 25 rfl hE (HW4.out.own.ext HEA.out) rfl rfl HSr.out (by simp [maxLen]; omega) (by omega) ?_
              intro ao9 cap9 g9 w9 ho9 hg9 hon9
              obtain ⟨k1, k2⟩ := HW4.out.room HEA.out hon9
              have Ho9 := Lib.hid ho9
              have Hg9 := Lib.hid hg9
              have Hon9 := Lib.hid hon9
              clear ho9 hg9 hon9
              refine hK _ _ ⟨trivial, ?_⟩
              clear hK K'
              try simp only [Act.put, List.setIfInBounds_toArray, List.set_cons_zero, List.set_cons_succ]
              refine wpAnyH_take (i := 13) (oi := ⟨some 43, _, _, _, _, _⟩) (v := ?_) rfl (by kernel_rfl) (by kernel_rfl) (by kernel_rfl) (fun _ _ _ h => h) (Or.inl ⟨by rfl, ?_⟩) trivial ?_
              rotate_left
              · (intro w' _; go_simp; try (with_reducible rfl))
              simp only [Act.put, List.setIfInBounds_toArray, List.set_cons_zero, List.set_cons_succ]
              refine wpAnyH_take (i := 14) (oi := ⟨some 44, _, _, _, _, _⟩) (v := ?_) rfl (by kernel_rfl) (by kernel_rfl) (by kernel_rfl) (fun _ _ _ h => h) (Or.inl ⟨by rfl, ?_⟩) trivial ?_
              rotate_left
              · (intro w' _; go_simp; try (with_reducible rfl))
              simp only [Act.put, List.setIfInBounds_toArray, List.set_cons_zero, List.set_cons_succ]
              refine wpAnyH_all (rs := [15]) (by kernel_rfl) (by simp) ?_
              intro i hi
              rw [List.mem_singleton] at hi
              subst hi
              refine wpOp_runG (o := ⟨none, _, _, _, _, _⟩) rfl rfl fun K' hK => ?_
              go_simp
              refine hK _ _ ⟨trivial, ?_⟩
              clear hK K'
              try simp only [Act.put, List.setIfInBounds_toArray, List.set_cons_zero, List.set_cons_succ]
              refine wpAnyH_done (by kernel_rfl) ?_ _
              go_wp2_with fail
              go_roundw
              case rel =>
                obtain ⟨hP, hPo, hPg⟩ := HW4.out.push (by omega) (HEA.out) Ho9.out Hg9.out Hon9.out
                refine ⟨n + 1, ao9, cap9, g9, pth ++ [v0], by go_num, by rw [HLe.out]; omega, hP, by rw [HLe.out]; exact Hstep.out v0 Hnext.out, by rw [List.length_append, List.length_singleton]; omega, ?_, fun k hk => ?_⟩
                · exact (Hon.out.ext HB4d.out).trans hPo (fun i hi e => e.elim .inl (fun e => (Hgo.out i e).elim .inr (fun h => by omega)))
                · rcases hPg k hk with h | h
                  · exact Hgo.out k h
                  · have h1 := (HB4d.out).size
                    have h2 := Hon.out.size
                    exact .inr (by omega)
              case measure => simp [intOf]; omega
            · refine wpOp_runG (o := ⟨some 40, _, _, _, _, _⟩) rfl rfl fun K' hK => ?_
              have hgc := Hcb.out
              go_simp
              clear hgc
              refine hK _ _ ⟨trivial, ?_⟩
              clear hK K'
              try simp only [Act.put, List.setIfInBounds_toArray, List.set_cons_zero, List.set_cons_succ]
              refine wpAnyH_all (rs := [4, 11]) (by kernel_rfl) (by simp) ?_
              intro i hi
              rcases (by simpa using hi : i = 4 ∨ i = 11) with rfl | rfl
              · refine wpOp_runG (o := ⟨some 34, _, _, _, _, _⟩) rfl rfl fun K' hK => ?_
                have hgc := Hc17.out _ (Below.refl _ _)
                go_simp
                clear hgc
                refine hK _ _ ⟨trivial, ?_⟩
                clear hK K'
                try simp only [Act.put, List.setIfInBounds_toArray, List.set_cons_zero, List.set_cons_succ]
                refine wpAnyH_all (rs := [11]) (by kernel_rfl) (by simp) ?_
                intro i hi
                rw [List.mem_singleton] at hi
                subst hi
                refine wpOp_runG (o := ⟨some 41, _, _, _, _, _⟩) rfl rfl fun K' hK => ?_
                go_simp
                obtain ⟨wa, hwa⟩ : ∃ w', wd.alloc (.cells #[.int .u32 (v0 : Nat)] 24) = w' := ⟨_, rfl⟩
                have HSr := Lib.hid (show Src Tryz.prog 1 25 (.slice (some ⟨wd.heap.size, 0, none⟩) 1 1) 1 [.int .u32 (v0 : Nat)] wa by rw [← hwa]; exact srcOne Tryz.underlying25 wd _ _ _ rfl)
                have HEA := Lib.hid (show Below wd.heap.size wd wa by rw [← hwa]; exact ext_alloc _ _)
                rw [hwa]
                clear hwa
                refine hK _ _ ⟨trivial, ?_⟩
                clear hK K'
                try simp only [Act.put, List.setIfInBounds_toArray, List.set_cons_zero, List.set_cons_succ]
                refine wpAnyH_all (rs := [12]) (by kernel_rfl) (by simp) ?_
                intro i hi
                rw [List.mem_singleton] at hi
                subst hi
                refine wpOp_runG (o := ⟨some 42, _, _, _, _, _⟩) rfl rfl fun K' hK => ?_
                refine wp_app (.tmp 34) (.tmp 41) 25 25 rfl hE (HW4.out.own.ext HEA.out) rfl rfl HSr.out (by simp [maxLen]; omega) (by omega) ?_
                intro ao9 cap9 g9 w9 ho9 hg9 hon9
                obtain ⟨k1, k2⟩ := HW4.out.room HEA.out hon9
                have Ho9 := Lib.hid ho9
                have Hg9 := Lib.hid hg9
                have Hon9 := Lib.hid hon9
                clear ho9 hg9 hon9
                refine hK _ _ ⟨trivial, ?_⟩
                clear hK K'
                try simp only [Act.put, List.setIfInBounds_toArray, List.set_cons_zero, List.set_cons_succ]
                refine wpAnyH_take (i := 13) (oi := ⟨some 43, _, _, _, _, _⟩) (v := ?_) rfl (by kernel_rfl) (by kernel_rfl) (by kernel_rfl) (fun _ _ _ h => h) (Or.inl ⟨by rfl, ?_⟩) trivial ?_
                rotate_left
                · (intro w' _; go_simp; try (with_reducible rfl))
                simp only [Act.put, List.setIfInBounds_toArray, List.set_cons_zero, List.set_cons_succ]
                refine wpAnyH_take (i := 14) (oi := ⟨some 44, _, _, _, _, _⟩) (v := ?_) rfl (by kernel_rfl) (by kernel_rfl) (by kernel_rfl) (fun _ _ _ h => h) (Or.inl ⟨by rfl, ?_⟩) trivial ?_
                rotate_left
                · (intro w' _; go_simp; try (with_reducible rfl))
                simp only [Act.put, List.setIfInBounds_toArray, List.set_cons_zero, List.set_cons_succ]
                refine wpAnyH_all (rs := [15]) (by kernel_rfl) (by simp) ?_
                intro i hi
                rw [List.mem_singleton] at hi
                subst hi
                refine wpOp_runG (o := ⟨none, _, _, _, _, _⟩) rfl rfl fun K' hK => ?_
                go_simp
                refine hK _ _ ⟨trivial, ?_⟩
                clear hK K'
                try simp only [Act.put, List.setIfInBounds_toArray, List.set_cons_zero, List.set_cons_succ]
                refine wpAnyH_done (by kernel_rfl) ?_ _
                go_wp2_with fail
                go_roundw
                case rel =>
                  obtain ⟨hP, hPo, hPg⟩ := HW4.out.push (by omega) (HEA.out) Ho9.out Hg9.out Hon9.out
                  refine ⟨n + 1, ao9, cap9, g9, pth ++ [v0], by go_num, by rw [HLe.out]; omega, hP, by rw [HLe.out]; exact Hstep.out v0 Hnext.out, by rw [List.length_append, List.length_singleton]; omega, ?_, fun k hk => ?_⟩
                  · exact (Hon.out.ext HB4d.out).trans hPo (fun i hi e => e.elim .inl (fun e => (Hgo.out i e).elim .inr (fun h => by omega)))
                  · rcases hPg k hk with h | h
                    · exact Hgo.out k h
                    · have h1 := (HB4d.out).size
                      have h2 := Hon.out.size
                      exact .inr (by omega)
                case measure => simp [intOf]; omega
              · refine wpOp_runG (o := ⟨some 41, _, _, _, _, _⟩) rfl rfl fun K' hK => ?_
                go_simp
                obtain ⟨wa, hwa⟩ : ∃ w', wd.alloc (.cells #[.int .u32 (v0 : Nat)] 24) = w' := ⟨_, rfl⟩
                have HSr := Lib.hid (show Src Tryz.prog 1 25 (.slice (some ⟨wd.heap.size, 0, none⟩) 1 1) 1 [.int .u32 (v0 : Nat)] wa by rw [← hwa]; exact srcOne Tryz.underlying25 wd _ _ _ rfl)
                have HEA := Lib.hid (show Below wd.heap.size wd wa by rw [← hwa]; exact ext_alloc _ _)
                rw [hwa]
                clear hwa
                refine hK _ _ ⟨trivial, ?_⟩
                clear hK K'
                try simp only [Act.put, List.setIfInBounds_toArray, List.set_cons_zero, List.set_cons_succ]
                refine wpAnyH_all (rs := [4]) (by kernel_rfl) (by simp) ?_
                intro i hi
                rw [List.mem_singleton] at hi
                subst hi
                refine wpOp_runG (o := ⟨some 34, _, _, _, _, _⟩) rfl rfl fun K' hK => ?_
                have hgc := Hc17.out _ HEA.out
                go_simp
                clear hgc
                refine hK _ _ ⟨trivial, ?_⟩
                clear hK K'
                try simp only [Act.put, List.setIfInBounds_toArray, List.set_cons_zero, List.set_cons_succ]
                refine wpAnyH_all (rs := [12]) (by kernel_rfl) (by simp) ?_
                intro i hi
                rw [List.mem_singleton] at hi
                subst hi
                refine wpOp_runG (o := ⟨some 42, _, _, _, _, _⟩) rfl rfl fun K' hK => ?_
                refine wp_app (.tmp 34) (.tmp 41) 25 25 rfl hE (HW4.out.own.ext HEA.out) rfl rfl HSr.out (by simp [maxLen]; omega) (by omega) ?_
                intro ao9 cap9 g9 w9 ho9 hg9 hon9
                obtain ⟨k1, k2⟩ := HW4.out.room HEA.out hon9
                have Ho9 := Lib.hid ho9
                have Hg9 := Lib.hid hg9
                have Hon9 := Lib.hid hon9
                clear ho9 hg9 hon9
                refine hK _ _ ⟨trivial, ?_⟩
                clear hK K'
                try simp only [Act.put, List.setIfInBounds_toArray, List.set_cons_zero, List.set_cons_succ]
                refine wpAnyH_take (i := 13) (oi := ⟨some 43, _, _, _, _, _⟩) (v := ?_) rfl (by kernel_rfl) (by kernel_rfl) (by kernel_rfl) (fun _ _ _ h => h) (Or.inl ⟨by rfl, ?_⟩) trivial ?_
                rotate_left
                · (intro w' _; go_simp; try (with_reducible rfl))
                simp only [Act.put, List.setIfInBounds_toArray, List.set_cons_zero, List.set_cons_succ]
                refine wpAnyH_take (i := 14) (oi := ⟨some 44, _, _, _, _, _⟩) (v := ?_) rfl (by kernel_rfl) (by kernel_rfl) (by kernel_rfl) (fun _ _ _ h => h) (Or.inl ⟨by rfl, ?_⟩) trivial ?_
                rotate_left
                · (intro w' _; go_simp; try (with_reducible rfl))
                simp only [Act.put, List.setIfInBounds_toArray, List.set_cons_zero, List.set_cons_succ]
                refine wpAnyH_all (rs := [15]) (by kernel_rfl) (by simp) ?_
                intro i hi
                rw [List.mem_singleton] at hi
                subst hi
                refine wpOp_runG (o := ⟨none, _, _, _, _, _⟩) rfl rfl fun K' hK => ?_
                go_simp
                refine hK _ _ ⟨trivial, ?_⟩
                clear hK K'
                try simp only [Act.put, List.setIfInBounds_toArray, List.set_cons_zero, List.set_cons_succ]
                refine wpAnyH_done (by kernel_rfl) ?_ _
                go_wp2_with fail
                go_roundw
                case rel =>
                  obtain ⟨hP, hPo, hPg⟩ := HW4.out.push (by omega) (HEA.out) Ho9.out Hg9.out Hon9.out
                  refine ⟨n + 1, ao9, cap9, g9, pth ++ [v0], by go_num, by rw [HLe.out]; omega, hP, by rw [HLe.out]; exact Hstep.out v0 Hnext.out, by rw [List.length_append, List.length_singleton]; omega, ?_, fun k hk => ?_⟩
                  · exact (Hon.out.ext HB4d.out).trans hPo (fun i hi e => e.elim .inl (fun e => (Hgo.out i e).elim .inr (fun h => by omega)))
                  · rcases hPg k hk with h | h
                    · exact Hgo.out k h
                    · have h1 := (HB4d.out).size
                      have h2 := Hon.out.size
                      exact .inr (by omega)
                case measure => simp [intOf]; omega
        | false =>
          rw [hbk] at HBack
          have Hnx2 := Lib.hid (show nextW R j id pth = triesW (near15M R) l j id pth j.tries 0 by unfold nextW; rw [Hv.out, Hle.out, if_neg hne, hbk]; rfl)
          obtain ⟨T, hT⟩ : ∃ T, j.tries = T := ⟨_, rfl⟩
          rw [hT] at Hnx2 htr
          have HTe := Lib.hid hT
          have htw : IntKind.u64.wrap (T : Int) = (T : Int) := IntWalk.u64_in _ (by omega)
          clear hT
          go_wp2_with (first
            | (go_at_call 68; (with_reducible refine HBd.out.mono ?_); rintro e w3 ⟨bt, rfl, hO, hbt, hB⟩; have hbtl := hO.lt bt rfl; have HTb := Lib.hid (tab_rd hO HTl.out Hok.out); have Hbl := Lib.hid hbtl; have C3 := Lib.hid hB; have B3 := Lib.hid (B2.out.trans (hB.mono B2.out.size)); clear hO hbt hB hbtl)
            | (go_at_call 69; (with_reducible refine (HBack.out _ B3.out).mono ?_); rintro e w4 ⟨rfl, hB⟩; have C4 := Lib.hid (C3.out.trans (hB.mono C3.out.size)); have D4 := Lib.hid hB; have B4 := Lib.hid (B3.out.trans (hB.mono B3.out.size)); have c10 := (HW.out.ext B4.out).c10; rw [HTe.out] at c10; clear hB))
          clear c10
          have HRd4 := Lib.hid (Hrd.out.ext C4.out)
          have HTb4 := Lib.hid (HTb.out.ext D4.out)
          have HW4 := Lib.hid (HW.out.ext B4.out)
          have HG4 := Lib.hid (HGo.out.ext B4.out)
          have HJ0 : Hid (goJ (near15M R) l j id pth w4 (.int .u64 0) w4) := ⟨0, rfl, Nat.zero_le _, Below.refl _ _, by rw [Nat.sub_zero]⟩
          have hs4 : w2.heap.size ≤ w4.heap.size := C4.out.size
          have hs34 : w3.heap.size ≤ w4.heap.size := D4.out.size
          go_loopw [51] (fun v51 wi => goJ (near15M R) l j id pth w4 v51 wi) (fun v51 _ => T - (intOf v51).toNat)
          case atStart => exact HJ0.out
          case round =>
            obtain ⟨t, rfl, ht, hBi, htj⟩ := hrel
            rename World => wi
            rw [HTe.out] at ht htj
            have hsi := hBi.size
            have HBi := Lib.hid hBi
            have Htj := Lib.hid htj
            clear hBi htj
            by_cases hlt2 : t < T
            · have dt : decide ((t : Int) < (T : Int)) = true := by simp; omega
              have dt2 : decide (t < T) = true := by simp; omega
              have HCd := Lib.hid (wcand_any (HW4.out.ext HBi.out) hid l aa (some ⟨bt, 0, none⟩) ac l.length _ (fun b => b = bt) t (by omega) hll hne hm (fun b hb => by have := Hfl.out b hb; omega) (fun b hb => by have := Hbl.out; subst hb; omega) (HRd4.out.ext HBi.out) (HTb4.out.ext HBi.out))
              have htb : candW l j id (pth.length - 1) t < 4294967296 := by
                unfold candW
                rw [getElem!_pos l _ (cand_lt hm hne j id (pth.length - 1) t)]
                exact (Hal.out _ (List.getElem_mem _)).1
              obtain ⟨tv, htv⟩ : ∃ tv, candW l j id (pth.length - 1) t = tv := ⟨_, rfl⟩
              rw [htv] at HCd htb
              have HTk := Lib.hid (fun W (hB : Below wi.heap.size wi W) => wtakes_any (HW4.out.ext (HBi.out.trans (hB.mono hsi))) hid Hj.out R gfp (by omega) Hrp.out Hrw.out (HG4.out.ext (HBi.out.trans (hB.mono hsi))) tv t htb (by omega))
              have Htv := Lib.hid htv
              clear htv htb
              cases htk : takesW (near15M R) j id pth tv t with
              | true =>
                rw [htk] at HTk
                have Hnext := Lib.hid (show nextW R j id pth = some tv by
                  rw [Hnx2.out, ← Htj.out, show T - t = (T - t - 1) + 1 by omega]
                  exact tries_some (by unfold tryW; rw [Htv.out, htk]; rfl))
                go_wp2_with (first
                  | (go_at_call 70; (with_reducible refine HCd.out.mono ?_); rintro e w6 ⟨rfl, hB⟩; have B6 := Lib.hid hB; clear hB)
                  | (go_at_call 71; (with_reducible refine (HTk.out _ B6.out).mono ?_); rintro e w7 ⟨rfl, hB⟩; have B7 := Lib.hid (B4.out.trans ((HBi.out.trans ((B6.out.trans (hB.mono B6.out.size)).mono hsi)).mono B4.out.size)); have HW7 := Lib.hid (HW.out.ext B7.out); have c17 := HW7.out.c17; clear hB)
                  | (at_builtin; (try rw [alloc_drew]); refine wpList_app rfl (.tmp 67) (.tmp 69) 25 25 rfl hE (HW7.out.own.alloc _) rfl rfl (srcOne Tryz.underlying25 (w7) _ _ _ rfl) (by simp [maxLen]; omega) (by omega) ?_; intro ao9 cap9 g9 w9 ho9 hg9 hon9; obtain ⟨k1, k2⟩ := HW7.out.room (ext_alloc _ _) hon9; have Ho9 := Lib.hid ho9; have Hg9 := Lib.hid hg9; have Hon9 := Lib.hid hon9; clear ho9 hg9 hon9))
                go_roundw
                case rel =>
                  obtain ⟨hP, hPo, hPg⟩ := HW7.out.push (by omega) (ext_alloc w7 _) Ho9.out Hg9.out Hon9.out
                  refine ⟨n + 1, ao9, cap9, g9, pth ++ [tv], by go_num, by rw [HLe.out]; omega, hP, by rw [HLe.out]; exact Hstep.out tv Hnext.out, by rw [List.length_append, List.length_singleton]; omega, ?_, fun k hk => ?_⟩
                  · exact (Hon.out.ext B7.out).trans hPo (fun i hi e => e.elim .inl (fun e => (Hgo.out i e).elim .inr (fun h => by omega)))
                  · rcases hPg k hk with h | h
                    · exact Hgo.out k h
                    · have h1 := (B7.out).size
                      have h2 := Hon.out.size
                      exact .inr (by omega)
                case measure => simp [intOf]; omega
              | false =>
                rw [htk] at HTk
                have Hno := Lib.hid (show triesW (near15M R) l j id pth (T - (t + 1)) (t + 1) = triesW (near15M R) l j id pth T 0 by
                  rw [← Htj.out, show T - t = (T - (t + 1)) + 1 by omega]
                  exact (tries_none (by unfold tryW; rw [Htv.out, htk]; rfl)).symm)
                go_wp2_with (first
                  | (go_at_call 70; (with_reducible refine HCd.out.mono ?_); rintro e w6 ⟨rfl, hB⟩; have B6 := Lib.hid hB; clear hB)
                  | (go_at_call 71; (with_reducible refine (HTk.out _ B6.out).mono ?_); rintro e w7 ⟨rfl, hB⟩; have B7 := Lib.hid (HBi.out.trans ((B6.out.trans (hB.mono B6.out.size)).mono hsi)); clear hB))
                go_roundw
                case rel => exact ⟨t + 1, by go_num, by rw [HTe.out]; omega, B7.out, by rw [HTe.out]; exact Hno.out⟩
                case measure => simp [intOf]; omega
            · obtain rfl : t = T := by omega
              have dt : decide ((t : Int) < (t : Int)) = false := by simp
              have Hend := Lib.hid (Hstop.out (by rw [Hnx2.out, ← Htj.out, Nat.sub_self]; rfl))
              go_wp2_with fail
              go_end0
              have B5 : Below wo.heap.size wo wi := B4.out.trans (HBi.out.mono B4.out.size)
              exact ⟨⟨_, rfl⟩, _, cap1, go1, by rw [HLe.out, Hend.out]; exact HW.out.ext B5, Hon.out.ext B5, Hgo.out⟩
    · obtain rfl : n = L := by omega
      have dn : decide ((n : Int) < (n : Int)) = false := by simp
      have Hend := Lib.hid (show walkW R j id n path = pth by
        rw [HLe.out, Nat.sub_self] at hwk
        exact hwk.symm)
      have HW := Lib.hid hW
      have Hon := Lib.hid hon
      have Hgo := Lib.hid hgo
      clear hW hon hgo hwk
      go_wp2_with fail
      go_end0
      exact ⟨⟨_, rfl⟩, _, cap1, go1, by rw [HLe.out, Hend.out]; exact HW.out, Hon.out, Hgo.out⟩
end Go.Proofs.YtcklfffeimnfeaaGreat

namespace Go.Proofs.YtcklfffeimnfeaaGreat
open Go.RowKit

def PathRet (path : List Nat) (w : World) (e : Ending) (w' : World) : Prop :=
  ∃ a c g', e = .returned (.slice a path.length c) ∧ Own w' a c g' 24 1 path.length (u32s path) ∧ (∀ k, g' = some k → w.heap.size ≤ k) ∧ Below w.heap.size w w'
def walkCs (gp : Value) (j : JobD) (ao : Option Addr) (cap : Nat) (id : Nat) (pa : Option Addr) (n c : Nat) : Array Value :=
  #[gp, .int .u8 (j.kind : Nat), .int .u64 (j.seed : Nat), .int .u32 (j.length : Nat), .int .u32 (j.walks : Nat), .slice ao j.src.length cap, .int .u32 (j.stop : Nat), .int .u32 (j.od : Nat), .int .u32 (j.p : Nat), .int .u32 (j.q : Nat),
    .int .u32 (j.tries : Nat), .int .u32 (j.best : Nat), .int .u32 (j.bsh : Nat), .int .u32 (j.bro : Nat), .int .u32 (j.bpo : Nat), .int .u32 (j.bso : Nat), .int .u32 (id : Nat), .slice pa n c]
theorem WlS.of {g : Nat} {gp : Value} {j : JobD} {id : Nat} {ao pa : Option Addr} {cap c : Nat} {go : Option Nat} {path : List Nat} {t : TypeId} {w : World} (h : w.heap[g]? = some (.cells (walkCs gp j ao cap id pa path.length c) t (0, 0)))
    (ho : Own w pa c go 24 1 path.length (u32s path)) (hne : go ≠ some g) (h0 : 0 < path.length) (h1 : path.length ≤ 100000) : WlS g gp j id pa c go path w := by
  have hc := fun i => cell_of_row w g i (walkCs gp j ao cap id pa path.length c) t (0, 0) h
  exact ⟨hc 0, hc 1, hc 2, hc 3, hc 6, hc 7, hc 8, hc 9, hc 10, hc 16, hc 17, fun i => frozen_of_row w g i _ t h, ho, hne, h0, h1⟩
attribute [local go_sem] Oper.semAt_some
theorem path_any (p : Option Nat) (R : List RowD) (gfp : Nat → Prop) (w : World) (hR : okG R) (hl : R.length ≤ 1000) (ha : ∀ r ∈ R, r.2.length ≤ 1000) (hg : GraphIs w gfp p R) (hgf : ∀ b, gfp b → b < w.heap.size)
    (j : JobD) (hj : JobOk j) (ao : Option Addr) (cap id : Nat) (hid : id < 4294967296) (hsl : j.src.length ≤ 1000000) (hsrc : Rd w ao j.src.length (u32s j.src)) :
    Calls Tryz.prog 16 #[gV p, .agg (jobCs j ao cap), .int .u32 (id : Nat)] w (PathRet (pathW R j id) w) := by
  obtain ⟨w1, hw1⟩ : ∃ w1, w.alloc (.cells (jobCs j ao cap) 29) = w1 := ⟨_, rfl⟩
  have hB1 : Below w.heap.size w w1 := by rw [← hw1]; exact ext_alloc _ _
  have hs1 : w1.heap.size = w.heap.size + 1 := by rw [← hw1]; simp
  have hr1 : w1.heap[w.heap.size]? = some (.cells (jobCs j ao cap) 29 (0, 0)) := by rw [← hw1]; exact heap_alloc_new _ _
  have HN := Lib.hid (jnew_any j hj ao cap id hid w1 hsl (hsrc.ext hB1))
  unfold newV at HN
  have Hr1 := Lib.hid hr1
  have HB1 := Lib.hid hB1
  have Hg := Lib.hid hg
  have Hgf := Lib.hid hgf
  have Hj := Lib.hid hj
  have HR := Lib.hid hR
  have Ha := Lib.hid ha
  clear hsrc hr1 hB1 hg hgf hj hR ha
  have HI := Lib.hid (show (Tryz.prog.info? 29).map (·.size) = some (jobCs j ao cap).size by kernel_rfl)
  obtain ⟨js, hjs⟩ : ∃ js, jobCs j ao cap = js := ⟨_, rfl⟩
  have Hjs := Lib.hid hjs
  rw [hjs] at HN Hr1 hw1 HI ⊢
  clear hjs
  cases hh : srcH j id with
  | false =>
    rw [hh] at HN
    have hpw : pathW R j id = [] := by unfold pathW; rw [hh]; rfl
    rw [hpw]
    obtain ⟨x, hx⟩ : ∃ x, newJ j id = x := ⟨_, rfl⟩
    rw [hx] at HN
    clear hpw hh hx
    go_enter Tryz.func16, Tryz.ntmps16
    go_wp2_with (first
      | (refine wpList_load_row rfl _ _ rfl w.heap.size rfl 29 js (0, 0) _ Hr1.out Tryz.underlying29 rfl HI.out ?_)
      | (refine wpList_load_row rfl _ _ rfl w.heap.size rfl 29 js (0, 0) _ Hr3.out Tryz.underlying29 rfl HI.out ?_)
      | (go_at_call 33; (with_reducible refine HN.out.mono ?_); rintro e w2 ⟨rfl, hB⟩; (have B2 := Lib.hid (HB1.out.trans (hB.mono (by omega)))); (have Hb2 := Lib.hid (hB.block w.heap.size (by omega))); (have Hz2 := Lib.hid (heap_alloc_new w2 (.cells #[.int .u32 0, .int .u32 0, .int .u32 0, .int .u32 0, .int .u32 0, .int .u32 0, .int .u32 0] 44))); (have hz2 : w.heap.size < w2.heap.size := Nat.lt_of_lt_of_le (by omega) hB.size); clear hB)
      | (refine wpList_store_row rfl _ _ _ rfl rfl rfl Hz2.out rfl (show _ = some 7 by kernel_rfl) (by simp [wkCs, Value.oneCell']) ?_; intro w3 hg3 ho3; have B3 := Lib.hid ((B2.out.alloc B2.out.size _).trans (ho3.below (Nat.le_trans B2.out.size (ext_alloc w2 _).size) (fun k hk e => Nat.lt_irrefl _ (Nat.lt_trans (Nat.lt_of_lt_of_le (by rw [e] at hk; exact hk) (Nat.le_refl _)) hz2)))); have Hr3 := Lib.hid ((ho3.same w.heap.size (Nat.lt_of_lt_of_le hz2 (ext_alloc w2 _).size) (fun e => Nat.ne_of_lt hz2 e)).trans (((ext_alloc w2 _).block w.heap.size hz2).trans (Hb2.out.trans Hr1.out))); have hc2 : w3.cell? ⟨w2.heap.size, 2, none⟩ = some (.int .u32 (x.at_ : Nat)) := cell_of_row w3 w2.heap.size 2 (wkCs x) _ (0, 0) hg3; clear hg3 ho3))
    go_ret
    exact ⟨none, 0, none, rfl, Own.nil _ _ _, (fun k h => by cases h), B3.out⟩
  | true =>
    rw [hh] at HN
    have hm := mayJ_small (srcH_walks (of_decide_eq_true hh)).1
    have hpw : pathW R j id = walkW R j id j.length [(newJ j id).at_] := by unfold pathW; rw [hh]; rfl
    rw [hpw]
    obtain ⟨x, hx⟩ : ∃ x, newJ j id = x := ⟨_, rfl⟩
    rw [hx] at HN ⊢
    clear hpw hh hx
    obtain ⟨pp, hpp⟩ : ∃ pp, p.map (fun g => (⟨g, 0, none⟩ : Addr)) = pp := ⟨_, rfl⟩
    have Hpp := Lib.hid (show gV p = .pointer pp by unfold gV; rw [hpp])
    clear hpp
    rw [Hpp.out]
    obtain ⟨k0, k1, k2, k3, k4, k5, k6, k7, k8, k9, k10, k11, k12, k13, k14, hks⟩ : ∃ k0 k1 k2 k3 k4 k5 k6 k7 k8 k9 k10 k11 k12 k13 k14, js = #[k0, k1, k2, k3, k4, k5, k6, k7, k8, k9, k10, k11, k12, k13, k14] := ⟨_, _, _, _, _, _, _, _, _, _, _, _, _, _, _, Hjs.out.symm⟩
    have Hks := Lib.hid (Hjs.out.trans hks)
    clear Hjs
    subst hks
    go_enter Tryz.func16, Tryz.ntmps16
    go_wp2_with (first
      | (refine wpList_load_row rfl _ _ rfl w.heap.size rfl 29 #[k0, k1, k2, k3, k4, k5, k6, k7, k8, k9, k10, k11, k12, k13, k14] (0, 0) _ Hr1.out Tryz.underlying29 rfl HI.out ?_)
      | (refine wpList_load_row rfl _ _ rfl w.heap.size rfl 29 #[k0, k1, k2, k3, k4, k5, k6, k7, k8, k9, k10, k11, k12, k13, k14] (0, 0) _ Hr3.out Tryz.underlying29 rfl HI.out ?_)
      | (go_at_call 33; (with_reducible refine HN.out.mono ?_); rintro e w2 ⟨rfl, hB⟩; (have B2 := Lib.hid (HB1.out.trans (hB.mono (by omega)))); (have Hb2 := Lib.hid (hB.block w.heap.size (by omega))); (have Hz2 := Lib.hid (heap_alloc_new w2 (.cells #[.int .u32 0, .int .u32 0, .int .u32 0, .int .u32 0, .int .u32 0, .int .u32 0, .int .u32 0] 44))); (have hz2 : w.heap.size < w2.heap.size := Nat.lt_of_lt_of_le (by omega) hB.size); clear hB)
      | (refine wpList_store_row rfl _ _ _ rfl rfl rfl Hz2.out rfl (show _ = some 7 by kernel_rfl) (by simp [wkCs, Value.oneCell']) ?_; intro w3 hg3 ho3; have B3 := Lib.hid ((B2.out.alloc B2.out.size _).trans (ho3.below (Nat.le_trans B2.out.size (ext_alloc w2 _).size) (fun k hk e => Nat.lt_irrefl _ (Nat.lt_trans (Nat.lt_of_lt_of_le (by rw [e] at hk; exact hk) (Nat.le_refl _)) hz2)))); have Hr3 := Lib.hid ((ho3.same w.heap.size (Nat.lt_of_lt_of_le hz2 (ext_alloc w2 _).size) (fun e => Nat.ne_of_lt hz2 e)).trans (((ext_alloc w2 _).block w.heap.size hz2).trans (Hb2.out.trans Hr1.out))); have hc2 : w3.cell? ⟨w2.heap.size, 2, none⟩ = some (.int .u32 (x.at_ : Nat)) := cell_of_row w3 w2.heap.size 2 (wkCs x) _ (0, 0) hg3; clear hg3 ho3))
    obtain ⟨w5, hw5⟩ : ∃ w5, ((w3.alloc (.cells #[.int .u32 (x.at_ : Nat)] 24)).alloc (.cells #[.pointer pp, k0, k1, k2, k3, k4, k5, k6, k7, k8, k9, k10, k11, k12, k13, k14, .int .u32 (id : Nat), .slice (some ⟨w3.heap.size, 0, none⟩) 1 1] 78)) = w5 := ⟨_, rfl⟩
    have hB5 : Below w.heap.size w w5 := by rw [← hw5]; exact (B3.out.alloc B3.out.size _).alloc (Nat.le_trans B3.out.size (ext_alloc w3 _).size) _
    have hs5 : w5.heap.size = w3.heap.size + 2 := by rw [← hw5]; simp
    have hO : Own w5 (some ⟨w3.heap.size, 0, none⟩) 1 (some w3.heap.size) 24 1 1 (u32s [x.at_]) := ⟨rfl, .inr ⟨w3.heap.size, #[.int .u32 (x.at_ : Nat)], rfl, rfl, by
      rw [← hw5]
      exact ((ext_alloc (w3.alloc _) _).block w3.heap.size (by simp)).trans (heap_alloc_new w3 _), Nat.le_refl _, by simp [maxLen], rfl, rfl⟩⟩
    have hrow : w5.heap[w3.heap.size + 1]? = some (.cells (walkCs (gV p) j ao cap id (some ⟨w3.heap.size, 0, none⟩) 1 1) 78 (0, 0)) := by
      have e : walkCs (gV p) j ao cap id (some ⟨w3.heap.size, 0, none⟩) 1 1 = #[.pointer pp, k0, k1, k2, k3, k4, k5, k6, k7, k8, k9, k10, k11, k12, k13, k14, .int .u32 (id : Nat), .slice (some ⟨w3.heap.size, 0, none⟩) 1 1] := by
        have hk := Hks.out
        rw [Hpp.out]
        simp only [jobCs, Array.mk.injEq, List.cons.injEq, and_true] at hk
        obtain ⟨rfl, rfl, rfl, rfl, rfl, rfl, rfl, rfl, rfl, rfl, rfl, rfl, rfl, rfl, rfl⟩ := hk
        rfl
      rw [e, ← hw5]
      have := heap_alloc_new (w3.alloc (.cells #[.int .u32 (x.at_ : Nat)] 24)) (.cells #[.pointer pp, k0, k1, k2, k3, k4, k5, k6, k7, k8, k9, k10, k11, k12, k13, k14, .int .u32 (id : Nat), .slice (some ⟨w3.heap.size, 0, none⟩) 1 1] 78)
      rw [World.size_alloc] at this
      exact this
    have hs3 := B3.out.size
    have hS : WlS (w3.heap.size + 1) (gV p) j id (some ⟨w3.heap.size, 0, none⟩) 1 (some w3.heap.size) [x.at_] w5 := WlS.of hrow hO (fun e => by have := Option.some.inj e; omega) (by simp) (by simp)
    have HGo := Lib.hid (wgoes_any hS hid Hj.out hm.1 (by simp) R gfp HR.out hl Ha.out (Hg.out.ext hB5) (fun b hb => by
      have := Hgf.out b hb
      exact ⟨by omega, by omega, fun e => by have := Option.some.inj e; omega⟩))
    rw [hw5]
    have B5 := Lib.hid hB5
    clear hw5 hO hrow hS hB5
    go_wp2_with (go_at_call 34; (with_reducible refine HGo.out.mono ?_); rintro e w6 ⟨⟨v6, rfl⟩, ao6, cap6, go6, hW6, hon6, hgo6⟩; have c17 := hW6.c17; have HW6 := Lib.hid hW6; have Hon6 := Lib.hid hon6; have Hgo6 := Lib.hid hgo6; clear hW6 hon6 hgo6)
    go_ret
    refine ⟨ao6, cap6, go6, rfl, HW6.out.own, fun k hk => ?_, B5.out.trans (Hon6.out.below (by omega) (fun k hk e => ?_))⟩
    · rcases Hgo6.out k hk with h | h
      · have := Option.some.inj h; omega
      · omega
    · rcases e with e | e
      · omega
      · have := Option.some.inj e; omega
end Go.Proofs.YtcklfffeimnfeaaGreat

namespace Go.Proofs.YtcklfffeimnfeaaGreat
open Go.Shelf
def sortKeys_ren : Go.Shelf.Ren := ⟨fun | 6 => 30 | 15 => 63 | 14 => 62 | 28 => 102 | 29 => 103 | 20 => 94 | 21 => 95 | 22 => 96 | 23 => 97 | 24 => 98 | 25 => 99 | 26 => 100 | 27 => 101 | 46 => 133 | 47 => 134 | 48 => 135 | 49 => 136 | 50 => 137 | 57 => 150 | n => n, fun | 22 => 65 | 24 => 68 | 25 => 71 | 3 => 3 | 39 => 119 | 0 => 0 | 53 => 24 | 55 => 23 | 4 => 4 | 46 => 155 | 45 => 154 | 50 => 81 | 5 => 5 | 9 => 9 | 66 => 201 | 70 => 205 | 76 => 222 | 77 => 223 | n => n, fun | n => n⟩
theorem sortKeys : Go.Proofs.SlLaysF.n6 Tryz.prog sortKeys_ren := {
  mixed := by kernel_rfl
  f6 := ⟨Tryz.f30.name, by decide, Tryz.func30.trans (congrArg some (by kernel_rfl))⟩
  f14 := ⟨Tryz.f62.name, by decide, Tryz.func62.trans (congrArg some (by kernel_rfl))⟩
  f15 := Tryz.func63.trans (congrArg some (by kernel_rfl))
  f20 := ⟨Tryz.f94.name, by decide, Tryz.func94.trans (congrArg some (by kernel_rfl))⟩
  f21 := ⟨Tryz.f95.name, by decide, Tryz.func95.trans (congrArg some (by kernel_rfl))⟩
  f22 := ⟨Tryz.f96.name, by decide, Tryz.func96.trans (congrArg some (by kernel_rfl))⟩
  f23 := ⟨Tryz.f97.name, by decide, Tryz.func97.trans (congrArg some (by kernel_rfl))⟩
  f24 := ⟨Tryz.f98.name, by decide, Tryz.func98.trans (congrArg some (by kernel_rfl))⟩
  f25 := ⟨Tryz.f99.name, by decide, Tryz.func99.trans (congrArg some (by kernel_rfl))⟩
  f26 := ⟨Tryz.f100.name, by decide, Tryz.func100.trans (congrArg some (by kernel_rfl))⟩
  f27 := ⟨Tryz.f101.name, by decide, Tryz.func101.trans (congrArg some (by kernel_rfl))⟩
  f28 := Tryz.func102.trans (congrArg some (by kernel_rfl))
  f29 := Tryz.func103.trans (congrArg some (by kernel_rfl))
  f46 := ⟨Tryz.f133.name, by decide, Tryz.func133.trans (congrArg some (by kernel_rfl))⟩
  f47 := Tryz.func134.trans (congrArg some (by kernel_rfl))
  f48 := Tryz.func135.trans (congrArg some (by kernel_rfl))
  f49 := ⟨Tryz.f136.name, by decide, Tryz.func136.trans (congrArg some (by kernel_rfl))⟩
  f50 := ⟨Tryz.f137.name, by decide, Tryz.func137.trans (congrArg some (by kernel_rfl))⟩
  f57 := ⟨Tryz.f150.name, by decide, Tryz.func150.trans (congrArg some (by kernel_rfl))⟩
  t0 := Tryz.underlying0
  a0 := Tryz.isAgg0
  z0 := Tryz.sizeOf0
  v0 := Tryz.zeroValue0
  t3 := Tryz.underlying3
  a3 := Tryz.isAgg3
  z3 := Tryz.sizeOf3
  v3 := Tryz.zeroValue3
  t4 := Tryz.underlying4
  a4 := Tryz.isAgg4
  z4 := Tryz.sizeOf4
  v4 := Tryz.zeroValue4
  t5 := Tryz.underlying5
  a5 := Tryz.isAgg5
  z5 := Tryz.sizeOf5
  v5 := Tryz.zeroValue5
  t9 := Tryz.underlying9
  a9 := Tryz.isAgg9
  z9 := Tryz.sizeOf9
  v9 := Tryz.zeroValue9
  t22 := Tryz.underlying65
  a22 := Tryz.isAgg65
  z22 := Tryz.sizeOf65
  v22 := Tryz.zeroValue65
  a24 := Tryz.isAgg68
  z24 := Tryz.sizeOf68
  t25 := Tryz.underlying71
  a25 := Tryz.isAgg71
  z25 := Tryz.sizeOf71
  v25 := Tryz.zeroValue71
  t39 := Tryz.underlying119
  a39 := Tryz.isAgg119
  z39 := Tryz.sizeOf119
  v39 := Tryz.zeroValue119
  t45 := Tryz.underlying154
  a45 := Tryz.isAgg154
  z45 := Tryz.sizeOf154
  v45 := Tryz.zeroValue154
  t46 := Tryz.underlying155
  a46 := Tryz.isAgg155
  z46 := Tryz.sizeOf155
  v46 := Tryz.zeroValue155
  t50 := Tryz.underlying81
  a50 := Tryz.isAgg81
  z50 := Tryz.sizeOf81
  v50 := Tryz.zeroValue81
  t53 := Tryz.underlying24
  a53 := Tryz.isAgg24
  z53 := Tryz.sizeOf24
  v53 := Tryz.zeroValue24
  t55 := Tryz.underlying23
  a55 := Tryz.isAgg23
  z55 := Tryz.sizeOf23
  v55 := Tryz.zeroValue23
  t66 := Tryz.underlying201
  a66 := Tryz.isAgg201
  z66 := Tryz.sizeOf201
  v66 := Tryz.zeroValue201
  t70 := Tryz.underlying205
  a70 := Tryz.isAgg205
  z70 := Tryz.sizeOf205
  v70 := Tryz.zeroValue205
  t76 := Tryz.underlying222
  a76 := Tryz.isAgg222
  z76 := Tryz.sizeOf222
  v76 := Tryz.zeroValue222
  t77 := Tryz.underlying223
  a77 := Tryz.isAgg223
  z77 := Tryz.sizeOf223
  v77 := Tryz.zeroValue223 }
end Go.Proofs.YtcklfffeimnfeaaGreat

namespace Go.Proofs.YtcklfffeimnfeaaGreat
open Go.RowKit

/-- a key in memory that no store into the row touches -/
structure KeyE (fe : Nat → Prop) (w : World) where
  addr : Option Addr
  cap : Nat
  txt : List UInt8
  le : txt.length ≤ cap
  most : cap ≤ maxLen
  rd : RdS Rep.u8 fe w addr txt
instance (fe : Nat → Prop) (w : World) : Inhabited (KeyE fe w) := ⟨⟨none, 0, [], Nat.le_refl _, by simp [maxLen], .inl rfl⟩⟩
section
variable {fe : Nat → Prop} {w : World}
def KeyE.val (x : KeyE fe w) : Value := .slice x.addr x.txt.length x.cap
def cfKey (x y : KeyE fe w) : Int := Lib.compareBytes x.txt y.txt
theorem bytes_irrefl (a : List UInt8) : ¬ a < a := List.lt_irrefl a
theorem bytes_trans {a b c : List UInt8} (h : a < b) (k : b < c) : a < c := List.lt_trans h k
theorem bytes_ntrans {a b c : List UInt8} (h : ¬ a < b) (k : ¬ b < c) : ¬ a < c := fun hac => by
  have h1 : b ≤ a := h
  have h2 : c ≤ b := k
  have h3 : c ≤ a := List.le_trans h2 h1
  exact h3 hac
theorem bytes_anti {a b : List UInt8} (h : ¬ a < b) (k : ¬ b < a) : a = b := List.le_antisymm k h
theorem swoKey : Sort.SWO (ltOf (cfKey (fe := fe) (w := w))) where
  irrefl x := decide_eq_false (fun h => bytes_irrefl _ ((cmp_lt _ _).1 h))
  trans x y z h1 h2 := decide_eq_true ((cmp_lt _ _).2 (bytes_trans ((cmp_lt _ _).1 (of_decide_eq_true h1)) ((cmp_lt _ _).1 (of_decide_eq_true h2))))
  ntrans x y z h1 h2 := decide_eq_false (fun h => bytes_ntrans (fun k => of_decide_eq_false h1 ((cmp_lt _ _).2 k)) (fun k => of_decide_eq_false h2 ((cmp_lt _ _).2 k)) ((cmp_lt _ _).1 h))
end
theorem sortWorld_only {α : Type} [Inhabited α] (enc : α → Value) (w : World) (blk off m : Nat) (dk : Array α) (os : Array Obj) : Only (fun k => k = blk) w (sortWorld enc w blk off m dk os) := by
  refine ⟨rfl, rfl, rfl, by simp [sortWorld, Sort.ahead], fun k hk hn => ?_⟩
  unfold sortWorld
  rw [Sort.heap_grow_old _ _ (by simpa [Sort.ahead] using hk)]
  unfold Sort.putRow Sort.mapBlock
  show (w.heap.modify blk _)[k]? = _
  rw [Array.getElem?_modify, if_neg (fun e => hn e.symm)]
theorem keys_of {fe : Nat → Prop} {w : World} : ∀ {L : List (List UInt8)} {css : List (List Value)}, All2 (fun x cs => (Rep.slice Rep.u8).ok w fe x cs) L css → ∃ D : List (KeyE fe w), D.map KeyE.txt = L ∧ css.flatten = D.map KeyE.val
  | _, _, .nil => ⟨[], rfl, rfl⟩
  | _, _, .cons h1 h2 => by
    obtain ⟨D, h3, h4⟩ := keys_of h2
    obtain ⟨a, c, rfl, h5, h6, h7⟩ := h1
    exact ⟨⟨a, c, _, h5, h6, h7⟩ :: D, by rw [List.map_cons, h3], by rw [List.flatten_cons, h4]; rfl⟩
theorem key_reads {fe : Nat → Prop} {w : World} {blk off n : Nat} (hfe : ∀ b, fe b → b ≠ blk) : CmpLays1 Tryz.prog 31 #[] (KeyE.val (fe := fe) (w := w)) cfKey blk off n w := fun m os dk _ x y => by
  have ho := sortWorld_only (KeyE.val (fe := fe) (w := w)) w blk off m dk os
  have hx := (x.rd.only ho (fun b hb _ e => hfe b hb e)).rdU8
  have hy := (y.rd.only ho (fun b hb _ e => hfe b hb e)).rdU8
  exact (bcompare_any _ _ _ _ x.cap y.cap _ hx hy).mono fun e w' ⟨h1, h2⟩ => ⟨h1, 0, #[], by rw [h2]; simp [Sort.grow]; rfl⟩
theorem pairwise_of {α : Type} [Inhabited α] {lt : α → α → Bool} {d : Array α} (h : Sort.SortedIn lt 0 d.size d) : d.toList.Pairwise (fun a b => lt b a = false) := by
  rw [List.pairwise_iff_getElem]
  intro i j hi hj hij
  have := h i j (Nat.zero_le _) hij (by simpa using hj)
  rw [getElem!_pos d j (by simpa using hj), getElem!_pos d i (by simpa using hi)] at this
  simpa using this
theorem inskey_nil (ao : Option Addr) (cap : Nat) (fv : Value) (w : World) : Calls Tryz.prog 94 #[.slice ao 0 cap, .int .i64 0, .int .i64 0, fv] w fun e w' => e = .returned (.tuple #[]) ∧ w' = w := by
  go_enter Tryz.func94, Tryz.ntmps94
  go_wp2_with fail
  refine wp_loop_rounds 1 ?_
  rw [rounds_succ]
  go_wp2_with fail
  (try simp only [Exit.inBlock, Exit.then])
  go_end0
  exact ⟨rfl, rfl⟩
theorem pdqkey_nil (ao : Option Addr) (cap : Nat) (l : Nat) (fv : Value) (w : World) : Calls Tryz.prog 62 #[.slice ao 0 cap, .int .i64 0, .int .i64 0, .int .i64 l, fv] w fun e w' => e = .returned (.tuple #[]) ∧ w' = w := by
  go_enter Tryz.func62, Tryz.ntmps62
  go_wp2_with fail
  refine wp_loop_rounds 1 ?_
  rw [rounds_succ]
  go_wp2_with (go_at_call 94; refine (inskey_nil _ _ _ _).mono ?_; rintro e w' ⟨rfl, rfl⟩)
  (try simp only [Exit.inBlock, Exit.then])
  refine bodyPost_ret (results_none rfl _ _ _) rfl ?_
  exact ⟨rfl, rfl⟩
theorem sortkey_nil (ao : Option Addr) (cap : Nat) (fv : Value) (w : World) : Calls Tryz.prog 30 #[.slice ao 0 cap, fv] w fun e w' => e = .returned (.tuple #[]) ∧ w' = w := by
  have HL := Lib.hid (fun W => len_any 0 (by omega) W)
  go_enter Tryz.func30, Tryz.ntmps30
  go_wp2_with (first
    | (go_at_call 63; refine (HL.out _).mono ?_; rintro e w' ⟨rfl, rfl⟩)
    | (go_at_call 62; refine (pdqkey_nil _ _ _ _ _).mono ?_; rintro e w' ⟨rfl, rfl⟩))
  go_end0
  exact ⟨rfl, rfl⟩
def SortedKeys (L : List (List UInt8)) (ao : Option Addr) (g : Option Nat) (fe : Nat → Prop) (w : World) (e : Ending) (w' : World) : Prop :=
  e = .returned (.tuple #[]) ∧ ∃ M : List (List UInt8), M.Perm L ∧ M.Pairwise (fun a b => ¬ b < a) ∧ RdS (Rep.slice Rep.u8) (fun b => fe b ∨ g = some b) w' ao M ∧ Only (fun k => g = some k) w w'
theorem keysort_any (L : List (List UInt8)) (ao : Option Addr) (cap : Nat) (g : Option Nat) (fe : Nat → Prop) (w : World) (hl : L.length ≤ 1000000) (hO : OwnS (Rep.slice Rep.u8) fe w ao cap g 68 L) (hfe : ∀ b, fe b → g ≠ some b) :
    Calls Tryz.prog 30 #[.slice ao L.length cap, .func (.func 31) #[] #[]] w (SortedKeys L ao g fe w) := by
  obtain ⟨css, ⟨hlen, hown⟩, hall⟩ := hO
  rcases hown with ⟨rfl, rfl, hn, rfl⟩ | ⟨b, cur, rfl, rfl, hh, hn, hc, hcs, ht⟩
  · obtain rfl := List.eq_nil_of_length_eq_zero hn
    exact (sortkey_nil none 0 _ w).mono fun e w' ⟨h1, h2⟩ => ⟨h1, [], .nil, .nil, .inl rfl, by rw [h2]; exact Only.refl _ _⟩
  · obtain ⟨D, hD, hv⟩ := keys_of hall
    have hDl : D.length = L.length := by rw [← hD, List.length_map]
    have hbl := (Array.getElem?_eq_some_iff.1 hh).1
    have hH : Sort.Holds KeyE.val w b 0 D.toArray := fun j hj => by
      have hj' : j < D.length := by simpa using hj
      refine ⟨?_, by simp [World.frozen?, hh]⟩
      rw [Nat.zero_add, cell_of_row w b j cur _ (0, 0) hh]
      have h1 : css.flatten[j]? = (D.map KeyE.val)[j]? := by rw [hv]
      rw [← ht, List.getElem?_take, if_pos (by show j < L.length * 1; omega)] at h1
      rw [← Array.getElem?_toList, h1, List.getElem?_map, List.getElem?_eq_getElem hj', getElem!_pos D.toArray j hj]
      simp
    have eg : ∀ args w, (callFunc 31 args).run Tryz.prog w = .ok (.enter 31 args) w := enters_of Tryz.func31 (by kernel_rfl) rfl
    have h := Any.slices_SortFunc sortKeys KeyE.val (fun x => rfl) cfKey swoKey 31 #[] b 0 cap D.toArray w eg (key_reads (fun k hk e => hfe k hk (by rw [e]))) hH hbl (by simp; omega)
    rw [List.size_toArray, hDl] at h
    refine Calls.mono h ?_
    rintro e w' ⟨rfl, d', n, os, hp, hs, rfl⟩
    refine ⟨rfl, d'.toList.map KeyE.txt, ?_, ?_, ?_, (sortWorld_only _ _ _ _ _ _ _).mono (fun k _ e => by rw [e])⟩
    · have h1 := hp.2.2
      rw [← hD]
      have hsz : d'.size = D.length := by rw [hp.1]; simp
      have e1 : (d'.extract 0 L.length).toList = d'.toList := by rw [Array.toList_extract]; simp [List.extract, ← hDl, ← hsz]; exact List.take_of_length_le (by simp)
      have e2 : (D.toArray.extract 0 L.length).toList = D := by rw [Array.toList_extract]; simp [List.extract, ← hDl]
      rw [e1, e2] at h1
      exact h1.map _
    · have hsz : d'.size = L.length := by rw [hp.1]; simp [hDl]
      rw [← hsz] at hs
      rw [List.pairwise_map]
      exact (pairwise_of hs).imp fun {x y} hxy hlt => of_decide_eq_false hxy ((cmp_lt _ _).2 hlt)
    · have hsz : d'.size = D.toArray.size := hp.1
      have hH' : Sort.Holds KeyE.val (sortWorld KeyE.val w b 0 n d' os) b 0 d' := Sort.holds_grow _ _ _ _ _ _ (by simpa [Sort.ahead] using hbl) (Sort.holds_putRow _ _ _ _ _ _ (Sort.holds_ahead _ _ _ _ _ _ hH) hsz)
      have ho := sortWorld_only (KeyE.val (fe := fe) (w := w)) w b 0 n d' os
      refine .inr ⟨b, 0, rfl, .inr rfl, Nat.lt_of_lt_of_le hbl ho.size, fun j x hx => ?_⟩
      rw [List.getElem?_map] at hx
      cases hd : d'.toList[j]? with
      | none => rw [hd] at hx; cases hx
      | some y =>
        rw [hd] at hx
        cases hx
        obtain ⟨hj, he⟩ := List.getElem?_eq_some_iff.1 hd
        refine ⟨[y.val], ⟨y.addr, y.cap, rfl, y.le, y.most, (y.rd.only ho (fun k hk _ e => hfe k hk (by rw [e]))).mono (fun k hk _ => .inl hk)⟩, fun i hi => ?_⟩
        obtain rfl : i = 0 := by have : i < 1 := hi; omega
        have h1 := (hH' j (by simpa using hj)).1
        rw [getElem!_pos d' j (by simpa using hj)] at h1
        simp only [Array.getElem_toList] at he
        rw [he] at h1
        show (sortWorld _ w b 0 n d' os).cell? ⟨b, 0 + j * 1 + 0, none⟩ = _
        simpa using h1

/-! ### sorted edges' keys -/
theorem perm_tw (p : EdgeD → Bool) (x : EdgeD) (l : List EdgeD) : (l.takeWhile p ++ [x] ++ l.dropWhile p).Perm (x :: l) := by
  rw [List.append_assoc, List.singleton_append]
  refine List.perm_middle.trans (.cons x ?_)
  rw [List.takeWhile_append_dropWhile]
theorem sortR_perm (l : List EdgeD) : (sortR l).Perm l := by
  have h : ∀ (l out : List EdgeD), (l.foldl (fun out x => insR x out) out).Perm (l ++ out) := by
    intro l
    induction l with
    | nil => intro out; exact .refl _
    | cons x l ih =>
      intro out
      rw [List.foldl_cons]
      refine (ih _).trans ?_
      exact ((perm_tw _ x out).append_left l).trans (by rw [List.cons_append]; exact List.perm_middle)
  simpa [sortR] using h l []
theorem sorted_one {l m : List (List UInt8)} (hp : l.Perm m) (hl : l.Pairwise (fun a b => ¬ b < a)) (hm : m.Pairwise (fun a b => ¬ b < a)) : l = m := by
  induction l generalizing m with
  | nil => exact (List.nil_perm.1 hp).symm
  | cons x l ih =>
    cases m with
    | nil => exact absurd hp.length_eq (by simp)
    | cons y m =>
      obtain ⟨h1, h2⟩ := List.pairwise_cons.1 hl
      obtain ⟨h3, h4⟩ := List.pairwise_cons.1 hm
      have e : x = y := by
        have hx : x ∈ y :: m := hp.mem_iff.1 (List.mem_cons_self ..)
        have hy : y ∈ x :: l := hp.mem_iff.2 (List.mem_cons_self ..)
        rcases List.mem_cons.1 hx with rfl | hx
        · rfl
        · rcases List.mem_cons.1 hy with rfl | hy
          · rfl
          · exact bytes_anti (h3 x hx) (h1 y hy)
      subst e
      rw [ih (List.Perm.cons_inv hp) h2 h4]
theorem keysM_sorted {s : List EdgeD} (hs : sortedE s) (hok : ∀ x ∈ s, okE x) : (keysM s).Pairwise (fun a b => ¬ b < a) := by
  unfold keysM
  rw [List.pairwise_map]
  refine List.Pairwise.imp_of_mem (fun {x y} hx hy h hlt => ?_) hs
  have := (belowE_key y x (hok y hy) (hok x hx)).2 hlt
  rw [h] at this; cases this
theorem keys_sortR {l : List EdgeD} (hok : ∀ x ∈ l, okE x) {M : List (List UInt8)} (hp : M.Perm (keysM l)) (hM : M.Pairwise (fun a b => ¬ b < a)) : M = keysM (sortR l) :=
  sorted_one (hp.trans ((sortR_perm l).map _).symm) hM (keysM_sorted (sortR_all l).1 (fun x hx => hok x ((sortR_all l).2.1 x |>.1 hx)))
end Go.Proofs.YtcklfffeimnfeaaGreat

namespace Go.Proofs.YtcklfffeimnfeaaGreat
open Go.RowKit

/-- what a call that hands over a graph and a number leaves -/
def GraphRet (r : List RowD × Nat) (w : World) (e : Ending) (w' : World) : Prop :=
  ∃ p : Option Nat, e = .returned (.tuple #[gV p, .int .i64 (r.2 : Nat)]) ∧ (r.2 ≠ 0 → p = none) ∧ (r.2 = 0 → p ≠ none) ∧ GraphIs w' (fun k => w.heap.size ≤ k) p r.1 ∧ Below w.heap.size w w'
def gofI (l : List EdgeD) (w : World) (o i : Value) (wr : World) : Prop :=
  ∃ (k : Nat) (ao : Option Addr) (cap : Nat) (g : Option Nat) (fe : Nat → Prop), k ≤ l.length ∧ i = .int .i64 (k : Nat) ∧ o = .slice ao k cap ∧ zeroW (l.take k) = false ∧ OwnS (Rep.slice Rep.u8) fe wr ao cap g 68 ((keysM l).take k) ∧
    (∀ b, fe b → w.heap.size ≤ b ∧ b < wr.heap.size ∧ g ≠ some b) ∧ (∀ b, g = some b → w.heap.size ≤ b) ∧ Below w.heap.size w wr
theorem rowsOf_err {M : List (List UInt8)} (h : (rowsOf M).2 ≠ 0) : (rowsOf M).1 = [] := by
  unfold rowsOf at h ⊢
  split
  · rename_i h1; rw [if_pos h1] at h; simp at h
  · rfl
theorem ofM_err {l : List EdgeD} (h : (ofM l).2 ≠ 0) : (ofM l).1 = [] := by
  unfold ofM at h ⊢
  split
  · rfl
  · rename_i h1
    rw [if_neg h1, rrows_rows] at h
    rw [rrows_rows]
    exact rowsOf_err h
theorem gof_any (l : List EdgeD) (ao : Option Addr) (cap : Nat) (fp : Nat → Prop) (w : World) (hl : l.length ≤ 100000) (hok : ∀ x ∈ l, okE x) (hrd : RdS edgeRep fp w ao l) :
    Calls Tryz.prog 14 #[.slice ao l.length cap] w (GraphRet (ofM l) w) := by
  have hE := rowsElem
  have Hrd := Lib.hid hrd
  have Hok := Lib.hid hok
  clear hrd hok
  go_enter Tryz.func14, Tryz.ntmps14
  go_wp2_with fail
  go_loopw [4, 11] (fun o i wr => gofI l w o i wr) (fun _ i _ => l.length - (intOf i).toNat)
  case atStart => exact ⟨0, none, 0, none, fun _ => False, by omega, rfl, rfl, rfl, OwnS.nil _ _ _ _, fun b h => h.elim, (fun b h => by cases h), Below.refl _ _⟩
  case round =>
    obtain ⟨k, ao', cap', g, fe, hk, rfl, rfl, hz, hO, hfe, hg, hB⟩ := hrel
    rename World => wo
    by_cases hlt : k < l.length
    · obtain ⟨bb, off, rfl, hbb, hc0, hc1, hc2, hoke⟩ := (Hrd.out.ext hB).edgeM k hlt
      have hir : (k : Int) < (l.length : Int) := by omega
      have hst := keysM_take l k hlt
      have hzt := zeroW_take l k hlt
      rw [hz, Bool.false_or] at hzt
      have hat := @zeroW_at l k hlt
      have hkl : ((keysM l).take k).length = k := by simp [keysM]; omega
      generalize l[k] = x at hc0 hc1 hc2 hoke hst hzt hat
      obtain ⟨x0, x1, x2⟩ := x
      simp only at hc0 hc1 hc2 hst hzt hat
      have HB := Lib.hid hB
      by_cases h0 : x2 = 0
      · subst h0
        have hv : ofM l = ([], 9) := by unfold ofM; rw [if_pos (hat rfl)]
        have Hv := Lib.hid hv
        clear hst hzt hat hv hB hO hfe hg hz hoke
        go_wp2_with fail
        go_ret2
        show GraphRet (ofM l) w _ _
        rw [Hv.out]
        exact ⟨none, rfl, fun _ => rfl, fun h => absurd h (by decide), rfl, HB.out.alloc HB.out.size _⟩
      · have e1 : (x2 == 0) = false := beq_eq_false_iff_ne.2 h0
        have e1' : ((x2 : Int) == 0) = false := beq_eq_false_iff_ne.2 (by omega)
        rw [e1] at hzt
        have Hzt := Lib.hid hzt
        have HKy := Lib.hid (mkey_any x0 x1 x2 hoke.1 hoke.2.1 hoke.2.2)
        obtain ⟨css, hown0, hall⟩ := hO
        rw [hkl] at hown0
        have hown : Own wo ao' cap' g 68 1 k css.flatten := hown0
        have Hown := Lib.hid hown
        have Hall := Lib.hid hall
        have Hst := Lib.hid hst
        have Hkl := Lib.hid hkl
        have Hfe := Lib.hid hfe
        have Hg := Lib.hid hg
        have hsB := hB.size
        have hglt := hown.lt
        have Hglt := Lib.hid hglt
        clear hown0 hown hall hst hkl hfe hg hB hoke hglt hzt hat h0 hz
        obtain ⟨w1, hw1⟩ : ∃ w1, wo.alloc (.cells #[.int .u32 (x0 : Nat), .int .u32 (x1 : Nat), .int .u32 (x2 : Nat)] 48) = w1 := ⟨_, rfl⟩
        have E1 := Lib.hid (show Below wo.heap.size wo w1 by rw [← hw1]; exact ext_alloc _ _)
        have d0 : w1.cell? ⟨wo.heap.size, 0, none⟩ = some (.int .u32 (x0 : Nat)) := by rw [← hw1]; simp
        have d1 : w1.cell? ⟨wo.heap.size, 1, none⟩ = some (.int .u32 (x1 : Nat)) := by rw [← hw1]; simp
        have d2 : w1.cell? ⟨wo.heap.size, 2, none⟩ = some (.int .u32 (x2 : Nat)) := by rw [← hw1]; simp
        go_upto_region 5 with fail
        clear hw1
        go_wp2_with (first
          | (go_at_call 29; (with_reducible refine (HKy.out _).mono ?_); rintro e w2 ⟨a2, c2, g2, rfl, ho2, hg2, hB2⟩; have hs2 := hB2.size; have Ho2 := Lib.hid ho2; have Hg2 := Lib.hid (fun b hb => Nat.le_trans E1.out.size (hg2 b hb)); have HB2 := Lib.hid (E1.out.trans (hB2.mono E1.out.size)); clear ho2 hg2 hB2)
          | (at_builtin; refine wpList_app rfl (.tmp 18) (.tmp 21) 65 65 rfl hE ((Hown.out.ext HB2.out).alloc _) rfl rfl (srcOne Tryz.underlying65 _ _ _ _ rfl) (by simp [maxLen]; omega) (by omega) ?_; intro ao3 cap3 g3 W3 ho3 hg3 hon3; have Ho3 := Lib.hid ho3; have Hg3 := Lib.hid hg3; have Hon3 := Lib.hid hon3; clear ho3 hg3 hon3))
        have hon : Only (fun j => g = some j) w2 W3 := ((Only.refl (fun j => g = some j) w2).alloc _).trans Hon3.out (fun _ _ h => h)
        have hs3 := hon.size
        have hs2' := HB2.out.size
        have hg3' : ∀ b, g3 = some b → g = some b ∨ w2.heap.size ≤ b := fun b h => by
          rcases Hg3.out with e | e <;> rw [e] at h
          · exact .inl h
          · have h := Option.some.inj h; right; simp at h; omega
        have hg2l := Ho2.out.lt
        go_roundw
        case rel =>
          refine ⟨k + 1, ao3, cap3, g3, fun b => fe b ∨ g2 = some b, by omega, by go_num, rfl, Hzt.out, ?_, fun b hb => ?_, fun b hb => ?_, ?_⟩
          · rw [Hst.out]
            refine OwnS.snoc (w := wo) (forall2_imp (fun x cs h => (Rep.slice Rep.u8).mono h (fun b hb _ => .inl hb)) Hall.out) (cs := [.slice a2 12 c2]) ⟨a2, c2, rfl, Ho2.out.capLe.1, Ho2.out.capLe.2, ?_⟩ (by rw [Hkl.out]; exact Ho3.out) (fun b hb hl => ?_) (by omega)
            · refine ((rdS_u8 (l := key3 x0 x1 x2) Ho2.out).only hon (fun b hb _ e => ?_)).mono (fun b hb _ => .inr hb)
              have := Hg2.out b hb; have := Hglt.out b e; omega
            · rcases hb with hb | hb
              · exact (hon.same b (by omega) (Hfe.out b hb).2.2).trans (HB2.out.block b hl)
              · have := Hg2.out b hb; omega
          · rcases hb with hb | hb
            · refine ⟨(Hfe.out b hb).1, by have := (Hfe.out b hb).2.1; omega, fun e => ?_⟩
              rcases hg3' b e with h | h
              · exact (Hfe.out b hb).2.2 h
              · have := (Hfe.out b hb).2.1; omega
            · have h1 := Hg2.out b hb
              have h2 := hg2l b hb
              refine ⟨by omega, by omega, fun e => ?_⟩
              rcases hg3' b e with h | h
              · have := Hglt.out b h; omega
              · omega
          · rcases hg3' b hb with h | h
            · exact Hg.out b h
            · omega
          · exact (HB.out.trans (HB2.out.mono hsB)).trans (hon.below (by omega) (fun j hj e => by have := Hg.out j e; omega))
        case measure => simp [intOf]; omega
    · obtain rfl : k = l.length := by omega
      have hlen : (keysM l).length = l.length := by simp [keysM]
      have e : (keysM l).take l.length = keysM l := by rw [← hlen, List.take_length]
      rw [e] at hO
      rw [List.take_length] at hz
      have HS := Lib.hid (keysort_any (keysM l) ao' cap' g fe wo (by omega) hO (fun b hb => (hfe b hb).2.2))
      rw [hlen] at HS
      have HR := Lib.hid (fun (M : List (List UInt8)) (a : Option Addr) (c : Nat) (W : World) (hM : M.length ≤ 1000000) (h : RdS (Rep.slice Rep.u8) (fun k => k < W.heap.size) W a M) => rows_any M a c W (by omega) h)
      have HP := Lib.hid (fun (M : List (List UInt8)) (hp : M.Perm (keysM l)) (hM : M.Pairwise (fun a b => ¬ b < a)) => (show rowsOf M = ofM l ∧ M.length = l.length from ⟨by
        rw [keys_sortR Hok.out hp hM]; unfold ofM; rw [if_neg (by rw [hz]; simp), rrows_rows], by rw [hp.length_eq, hlen]⟩))
      have HE := Lib.hid (@ofM_err l)
      have Hg := Lib.hid hg
      have HB := Lib.hid hB
      clear hO hlen e hz hfe hg hB
      generalize ofM l = r at *
      obtain ⟨R, er⟩ := r
      simp only at HE
      go_upto_region 10 with (go_at_call 30; (with_reducible refine HS.out.mono ?_); rintro e w2 ⟨rfl, M, h1, h2, h3, h4⟩; have H1 := Lib.hid h1; have H2 := Lib.hid h2; have H3 := Lib.hid h3; have H4 := Lib.hid h4; clear h1 h2 h3 h4)
      obtain ⟨hr, hML⟩ := HP.out M H1.out H2.out
      have B2 := Lib.hid (HB.out.trans (H4.out.below HB.out.size (fun j hj e => by have := Hg.out j e; omega)))
      have HRM := Lib.hid (HR.out M ao' cap' w2 (by omega) (H3.out.mono (fun b _ hl => hl)))
      rw [hr, hML] at HRM
      clear hr HP HS HR hML
      go_upto_region 11 with (go_at_call 32; (with_reducible refine HRM.out.mono ?_); rintro e w3 ⟨ra, rc, rfl, h5, h6, h7, h8⟩; have H5 := Lib.hid (And.intro h5 h6); have H7 := Lib.hid (h7.mono (fun k hk _ => Nat.le_trans B2.out.size hk)); have B3 := Lib.hid (B2.out.trans (h8.mono B2.out.size)); clear h5 h6 h7 h8)
      by_cases he : er = 0
      · subst he
        clear HE
        go_wp2_with fail
        go_ret2
        refine ⟨some w3.heap.size, rfl, fun h => absurd rfl h, (fun _ h => by cases h), ⟨B3.out.size, ra, rc, heap_alloc_new _ _, H5.out.1, H5.out.2, H7.out.ext (ext_alloc _ _)⟩, B3.out.alloc B3.out.size _⟩
      · have e1 : ((er : Int) != 0) = true := bne_iff_ne.2 (by omega)
        have e1' : (er != 0) = true := bne_iff_ne.2 he
        have hR := HE.out he
        have He := Lib.hid he
        clear he HE
        go_wp2_with fail
        go_ret2
        exact ⟨none, rfl, fun _ => rfl, fun h => absurd h He.out, hR, B3.out⟩
end Go.Proofs.YtcklfffeimnfeaaGreat
