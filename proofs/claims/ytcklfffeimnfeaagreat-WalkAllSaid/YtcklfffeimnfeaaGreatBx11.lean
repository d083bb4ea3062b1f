/- Texts merged into one: MergeTake, MergeSame, MergePlain. -/
import Derived.Test.YtcklfffeimnfeaaGreatBx10
import Derived.Test.YtcklfffeimnfeaaGreatBx09
set_option maxRecDepth 100000
set_option maxHeartbeats 12800000
set_option linter.unusedSimpArgs false
set_option linter.unusedVariables false
namespace Go.Proofs.YtcklfffeimnfeaaGreat
open Go.RowKit

def addArc (l : List ArcD) (x : EdgeD) : List ArcD := match l.getLast? with
  | some a => if a.1 = x.2.1 then l.dropLast ++ [(a.1, a.2 + x.2.2)] else l ++ [(x.2.1, x.2.2)]
  | none => [(x.2.1, x.2.2)]
def mtakeM (row : RowD) (x : EdgeD) : RowD := if sameRow row x then (row.1, addArc row.2 x) else (x.1, [(x.2.1, x.2.2)])

theorem alloc_drew (W : World) (o : Obj) : (W.alloc o).drew = W.drew.alloc o := rfl
theorem take_done {m : Nat} {row : RowD} {last : List UInt8} {ao : Option Addr} {cap : Nat} {g : Option Nat} {lo : Option Addr} {lc : Nat} {W : World} {v1 : Value} (c0 : W.cell? ⟨m, 0, none⟩ = some (.int .u32 (row.1 : Nat))) (c1 : W.cell? ⟨m, 1, none⟩ = some v1) (c2 : W.cell? ⟨m, 2, none⟩ = some (.slice lo last.length lc))
    (f0 : W.frozen? ⟨m, 0, none⟩ = false) (f1 : W.frozen? ⟨m, 1, none⟩ = false) (f2 : W.frozen? ⟨m, 2, none⟩ = false) (ho : OwnS arcRep (fun _ => False) W ao cap g 85 row.2) (hr : Rd W lo last.length (byteVals last)) (hm : m < W.heap.size) (hg : g ≠ some m)
    (hl : ∀ b off, lo = some ⟨b, off, none⟩ → 0 < last.length → b ≠ m ∧ g ≠ some b) : MG m row last ao cap g lo lc (W.setCell ⟨m, 1, none⟩ (.slice ao row.2.length cap)) := by
  have hset : Only (fun k => k = m) W (W.setCell ⟨m, 1, none⟩ (.slice ao row.2.length cap)) := (Only.refl (fun k => k = m) W).setCell (p := ⟨m, 1, none⟩) (fun _ => rfl) _
  refine ⟨by simp [cell_set_ite, c0], by simp [cell_set_ite, c1], by simp [cell_set_ite, c2], (World.frozen?_setCell ..).trans f0, (World.frozen?_setCell ..).trans f1, (World.frozen?_setCell ..).trans f2, ho.only hset (fun b hb _ e => ?_), ?_, by simpa using hm, hg, hl⟩
  · rcases hb with h | h
    · exact h
    · exact hg (e ▸ h)
  · rcases Nat.eq_zero_or_pos last.length with h0 | h0
    · exact ⟨hr.1, .inl h0⟩
    · obtain ⟨b, o, e, hb, hc⟩ := hr.pos h0
      refine ⟨hr.1, .inr ⟨b, o, e, by simpa using hb, fun j hj => ?_⟩⟩
      have hne := (hl b o e h0).1
      exact (hset.cell hb hne (o + j)).trans (hc j hj)
theorem take_new (m : Nat) (row : RowD) (last : List UInt8) (ao : Option Addr) (cap : Nat) (lo : Option Addr) (lc : Nat) (x : EdgeD) (w : World) (h : MH m row last ao cap lo lc w) (hx : okE x) (hns : ¬ sameRow row x) :
    Calls Tryz.prog 107 #[.pointer (some ⟨m, 0, none⟩), edgeV x] w fun e w' => e = .returned (.tuple #[]) ∧ ∃ ao' cap' g', MG m (mtakeM row x) last ao' cap' g' lo lc w' ∧ (∀ k, g' = some k → w.heap.size ≤ k) ∧ Only (fun k => k = m) w w' := by
  have hE := arcElem
  have hFull := fun (W : World) (hB : Below w.heap.size w W) => full_any m row last ao cap lo lc x W (h.ext hB)
  have hfb : (fullB row x || decide (row.2.length = 0)) = true := by
    unfold fullB
    unfold sameRow at hns
    by_cases h1 : 0 < row.2.length
    · have h2 : row.1 ≠ x.1 := fun e => hns ⟨h1, e⟩
      simp [h1, h2]
    · have : row.2.length = 0 := by omega
      simp [this]
  have htk : mtakeM row x = (x.1, [(x.2.1, x.2.2)]) := if_neg hns
  rw [htk]
  obtain ⟨x0, x1, x2⟩ := x
  obtain ⟨fr, arcs⟩ := row
  simp only [edgeV] at hFull ⊢
  simp only at hfb
  generalize fullB (fr, arcs) (x0, x1, x2) = fb at hFull hfb
  have Hm := Lib.hid h
  have HFull := Lib.hid hFull
  have hmlt := h.lt
  have mc0 := h.c0
  have mc1 := h.c1
  have mf0 := h.f0
  have mf1 := h.f1
  have mc2 := h.c2
  have mf2 := h.f2
  have Hx := Lib.hid hx
  simp only at mc0 mc1
  generalize hn : arcs.length = n at mc1 hfb
  have hmw : ¬ m = w.heap.size := by omega
  have hmw2 : ¬ w.heap.size = m := by omega
  clear hFull h htk hns hn
  have hd : fb = false → ((n : Int) == 0) = true := fun e => by subst e; simpa using hfb
  have hd' : fb = false → decide (n = 0) = true := fun e => by subst e; simpa using hfb
  clear hfb
  cases fb
  case' false =>
    replace hd := hd rfl
    replace hd' := hd' rfl
  case' true =>
    clear hd hd'
  all_goals
    go_enter Tryz.func107, Tryz.ntmps107
    go_wp2_with (go_at_call 106; refine (HFull.out _ (ext_alloc w _)).mono ?_; rintro e w2 ⟨rfl, hB2⟩; have e0 := ((bcell hB2).1 w.heap.size 0 (by simp)).trans (show _ = some (Value.int .u32 (x0 : Nat)) by simp [go_sem]); have e1 := ((bcell hB2).1 w.heap.size 1 (by simp)).trans (show _ = some (Value.int .u32 (x1 : Nat)) by simp [go_sem]); have e2 := ((bcell hB2).1 w.heap.size 2 (by simp)).trans (show _ = some (Value.int .u32 (x2 : Nat)) by simp [go_sem]); have mc0 := ((bcell ((ext_alloc w _).trans (hB2.mono (by simp)))).1 m 0 hmlt).trans mc0; have mc1 := ((bcell ((ext_alloc w _).trans (hB2.mono (by simp)))).1 m 1 hmlt).trans mc1; have mf0 := ((bcell ((ext_alloc w _).trans (hB2.mono (by simp)))).2 m 0 hmlt).trans mf0; have mf1 := ((bcell ((ext_alloc w _).trans (hB2.mono (by simp)))).2 m 1 hmlt).trans mf1; have mc2 := ((bcell ((ext_alloc w _).trans (hB2.mono (by simp)))).1 m 2 hmlt).trans mc2; have mf2 := ((bcell ((ext_alloc w _).trans (hB2.mono (by simp)))).2 m 2 hmlt).trans mf2; have hz2 := hB2.size; simp at hz2; have HB2 := Lib.hid hB2; clear hB2)
    go_quiet (fail)
    go_wp2_with fail
    obtain ⟨wq, hwq⟩ : ∃ x, ((w2.setCell ⟨m, 0, none⟩ (.int .u32 (x0 : Nat))).setCell ⟨m, 1, none⟩ (.slice none 0 0)).drewN nq = x := ⟨_, rfl⟩
    have hwB : Only (fun k => k = m) w wq := by
      rw [← hwq]
      exact (((Only.of_below (fp := fun k => k = m) ((ext_alloc w _).trans (HB2.out.mono (by simp)))).setCell (p := ⟨m, 0, none⟩) (fun _ => rfl) _).setCell (p := ⟨m, 1, none⟩) (fun _ => rfl) _).drewN nq
    have mw0 : wq.cell? ⟨m, 0, none⟩ = some (.int .u32 (x0 : Nat)) := by rw [← hwq]; simp [go_sem, cell_set_ite, mc0]
    have mw1 : wq.cell? ⟨m, 1, none⟩ = some (.slice none 0 0) := by rw [← hwq]; simp [go_sem, cell_set_ite, mc1]
    have mf1 : wq.frozen? ⟨m, 1, none⟩ = false := by rw [← hwq]; simp [go_sem, mf1]
    have e1 : wq.cell? ⟨w.heap.size, 1, none⟩ = some (.int .u32 (x1 : Nat)) := by rw [← hwq]; simp [go_sem, cell_set_ite, e1, hmw, hmw2]
    have e2 : wq.cell? ⟨w.heap.size, 2, none⟩ = some (.int .u32 (x2 : Nat)) := by rw [← hwq]; simp [go_sem, cell_set_ite, e2, hmw, hmw2]
    have hzq : w.heap.size + 1 ≤ wq.heap.size := by rw [← hwq]; simpa using hz2
    have HO := Lib.hid (Own.nil wq 85 2)
    have HNe : Hid ((none : Option Nat) ≠ some m) := Lib.hid (by simp)
    have mw2 : wq.cell? ⟨m, 2, none⟩ = some (.slice lo last.length lc) := by rw [← hwq]; simp [go_sem, cell_set_ite, mc2]
    have mf0q : wq.frozen? ⟨m, 0, none⟩ = false := by rw [← hwq]; simp [go_sem, mf0]
    have mf2q : wq.frozen? ⟨m, 2, none⟩ = false := by rw [← hwq]; simp [go_sem, mf2]
    have Hmw2 := Lib.hid mw2
    have Hmf0 := Lib.hid mf0q
    have Hmf2 := Lib.hid mf2q
    have HwB := Lib.hid hwB
    have Hmw0 := Lib.hid mw0
    have hmq : ¬ m = wq.heap.size := by omega
    have hmq2 : ¬ wq.heap.size = m := by omega
    have hsq : ¬ w.heap.size = wq.heap.size := by omega
    have hsq2 : ¬ wq.heap.size = w.heap.size := by omega
    rw [hwq]
    clear hwq hwB mc0 mc1 mc2 mf0 mf2 e0 mw0 mw2 mf0q mf2q
    refine (wpIn_wide (n := 0)).1 ?_
    refine wpIn_region_any (by kernel_rfl) ?_
    change wpAnyIn _ _ _ _ _ _ _ _ _ (World.drew _)
    refine wpAnyIn_take (i := 0) (v := ?_) rfl rfl (by kernel_rfl) (by kernel_rfl) (by kernel_rfl) (fun _ _ _ h => h) ⟨Or.inl ⟨by rfl, ?_⟩, fun _ => rfl⟩ ?_
    rotate_left
    · (intro w; go_simp; try (with_reducible rfl))
    refine wpAnyIn_take (i := 1) (v := ?_) rfl rfl (by kernel_rfl) (by kernel_rfl) (by kernel_rfl) (fun _ _ _ h => h) ⟨Or.inl ⟨by rfl, ?_⟩, fun _ => rfl⟩ ?_
    rotate_left
    · (intro w; go_simp; try (with_reducible rfl))
    refine wpAnyIn_take (i := 2) (v := ?_) rfl rfl (by kernel_rfl) (by kernel_rfl) (by kernel_rfl) (fun _ _ _ h => h) ⟨Or.inl ⟨by rfl, ?_⟩, fun _ => rfl⟩ ?_
    rotate_left
    · (intro w; go_simp; try (with_reducible rfl))
    refine wpAnyIn_take (i := 3) (v := ?_) rfl rfl (by kernel_rfl) (by kernel_rfl) (by kernel_rfl) (fun _ _ _ h => h) ⟨Or.inl ⟨by rfl, ?_⟩, fun _ => rfl⟩ ?_
    rotate_left
    · (intro w; go_simp; try (with_reducible rfl))
    refine wpAnyIn_take (i := 4) (v := ?_) rfl rfl (by kernel_rfl) (by kernel_rfl) (by kernel_rfl) (fun _ _ _ h => h) ⟨Or.inl ⟨by rfl, ?_⟩, fun _ => rfl⟩ ?_
    rotate_left
    · (intro w; go_simp; try (with_reducible rfl))
    refine wpAnyIn_take (i := 6) (v := ?_) rfl rfl (by kernel_rfl) (by kernel_rfl) (by kernel_rfl) (fun _ _ _ h => h) ⟨Or.inl ⟨by rfl, ?_⟩, fun _ => rfl⟩ ?_
    rotate_left
    · (intro w; go_simp; try (with_reducible rfl))
    refine wpAnyIn_take (i := 8) (v := ?_) rfl rfl (by kernel_rfl) (by kernel_rfl) (by kernel_rfl) (fun _ _ _ h => h) ⟨Or.inl ⟨by rfl, ?_⟩, fun _ => rfl⟩ ?_
    rotate_left
    · (intro w; go_simp; try (with_reducible rfl))
    refine wpAnyIn_ready (rs := [5, 7, 9]) (by kernel_rfl) (by simp) ?_
    refine AllReadyIn.cons rfl (fun K hK => ?_) ?_
    focus
      go_simp
      refine hK _ _ ?_
      clear hK K
      refine wpAnyIn_ready (rs := [7, 9]) (by kernel_rfl) (by simp) ?_
      refine AllReadyIn.cons rfl (fun K hK => ?_) ?_
      focus
        go_simp
        refine hK _ _ ?_
        clear hK K
        refine wpAnyIn_ready (rs := [9]) (by kernel_rfl) (by simp) ?_
        refine AllReadyIn.cons rfl (fun K hK => ?_) AllReadyIn.nil
        go_simp
        refine hK _ _ ?_
        clear hK K
        refine wpAnyIn_take (i := 10) (v := ?_) rfl rfl (by kernel_rfl) (by kernel_rfl) (by kernel_rfl) (fun _ _ _ h => h) ⟨Or.inl ⟨by rfl, ?_⟩, fun _ => rfl⟩ ?_
        rotate_left
        · (intro w; go_simp; try (with_reducible rfl))
        refine wpAnyIn_ready (rs := [11]) (by kernel_rfl) (by simp) ?_
        refine AllReadyIn.cons rfl (fun K hK => ?_) AllReadyIn.nil
        go_simp
        refine hK _ _ ?_
        clear hK K
      rotate_left
      focus
        refine AllReadyIn.cons rfl (fun K hK => ?_) AllReadyIn.nil
        go_simp
        refine hK _ _ ?_
        clear hK K
        refine wpAnyIn_ready (rs := [7]) (by kernel_rfl) (by simp) ?_
        refine AllReadyIn.cons rfl (fun K hK => ?_) AllReadyIn.nil
        go_simp
        refine hK _ _ ?_
        clear hK K
        refine wpAnyIn_take (i := 10) (v := ?_) rfl rfl (by kernel_rfl) (by kernel_rfl) (by kernel_rfl) (fun _ _ _ h => h) ⟨Or.inl ⟨by rfl, ?_⟩, fun _ => rfl⟩ ?_
        rotate_left
        · (intro w; go_simp; try (with_reducible rfl))
        refine wpAnyIn_ready (rs := [11]) (by kernel_rfl) (by simp) ?_
        refine AllReadyIn.cons rfl (fun K hK => ?_) AllReadyIn.nil
        go_simp
        refine hK _ _ ?_
        clear hK K
    rotate_left 2
    focus
      refine AllReadyIn.cons rfl (fun K hK => ?_) ?_
      focus
        go_simp
        refine hK _ _ ?_
        clear hK K
        refine wpAnyIn_ready (rs := [5, 9]) (by kernel_rfl) (by simp) ?_
        refine AllReadyIn.cons rfl (fun K hK => ?_) ?_
        focus
          go_simp
          refine hK _ _ ?_
          clear hK K
          refine wpAnyIn_ready (rs := [9]) (by kernel_rfl) (by simp) ?_
          refine AllReadyIn.cons rfl (fun K hK => ?_) AllReadyIn.nil
          go_simp
          refine hK _ _ ?_
          clear hK K
          refine wpAnyIn_take (i := 10) (v := ?_) rfl rfl (by kernel_rfl) (by kernel_rfl) (by kernel_rfl) (fun _ _ _ h => h) ⟨Or.inl ⟨by rfl, ?_⟩, fun _ => rfl⟩ ?_
          rotate_left
          · (intro w; go_simp; try (with_reducible rfl))
          refine wpAnyIn_ready (rs := [11]) (by kernel_rfl) (by simp) ?_
          refine AllReadyIn.cons rfl (fun K hK => ?_) AllReadyIn.nil
          go_simp
          refine hK _ _ ?_
          clear hK K
        rotate_left
        focus
          refine AllReadyIn.cons rfl (fun K hK => ?_) AllReadyIn.nil
          go_simp
          refine hK _ _ ?_
          clear hK K
          refine wpAnyIn_take (i := 10) (v := ?_) rfl rfl (by kernel_rfl) (by kernel_rfl) (by kernel_rfl) (fun _ _ _ h => h) ⟨Or.inl ⟨by rfl, ?_⟩, fun _ => rfl⟩ ?_
          rotate_left
          · (intro w; go_simp; try (with_reducible rfl))
          refine wpAnyIn_ready (rs := [5, 11]) (by kernel_rfl) (by simp) ?_
          refine AllReadyIn.cons rfl (fun K hK => ?_) ?_
          focus
            go_simp
            refine hK _ _ ?_
            clear hK K
            refine wpAnyIn_ready (rs := [11]) (by kernel_rfl) (by simp) ?_
            refine AllReadyIn.cons rfl (fun K hK => ?_) AllReadyIn.nil
            go_simp
            refine hK _ _ ?_
            clear hK K
          rotate_left
          focus
            refine AllReadyIn.cons rfl (fun K hK => ?_) AllReadyIn.nil
            go_simp
            refine hK _ _ ?_
            clear hK K
            refine wpAnyIn_ready (rs := [5]) (by kernel_rfl) (by simp) ?_
            refine AllReadyIn.cons rfl (fun K hK => ?_) AllReadyIn.nil
            go_simp
            refine hK _ _ ?_
            clear hK K
      rotate_left 3
      focus
        refine AllReadyIn.cons rfl (fun K hK => ?_) AllReadyIn.nil
        go_simp
        refine hK _ _ ?_
        clear hK K
        refine wpAnyIn_ready (rs := [5, 7]) (by kernel_rfl) (by simp) ?_
        refine AllReadyIn.cons rfl (fun K hK => ?_) ?_
        focus
          go_simp
          refine hK _ _ ?_
          clear hK K
          refine wpAnyIn_ready (rs := [7]) (by kernel_rfl) (by simp) ?_
          refine AllReadyIn.cons rfl (fun K hK => ?_) AllReadyIn.nil
          go_simp
          refine hK _ _ ?_
          clear hK K
          refine wpAnyIn_take (i := 10) (v := ?_) rfl rfl (by kernel_rfl) (by kernel_rfl) (by kernel_rfl) (fun _ _ _ h => h) ⟨Or.inl ⟨by rfl, ?_⟩, fun _ => rfl⟩ ?_
          rotate_left
          · (intro w; go_simp; try (with_reducible rfl))
          refine wpAnyIn_ready (rs := [11]) (by kernel_rfl) (by simp) ?_
          refine AllReadyIn.cons rfl (fun K hK => ?_) AllReadyIn.nil
          go_simp
          refine hK _ _ ?_
          clear hK K
        rotate_left
        focus
          refine AllReadyIn.cons rfl (fun K hK => ?_) AllReadyIn.nil
          go_simp
          refine hK _ _ ?_
          clear hK K
          refine wpAnyIn_take (i := 10) (v := ?_) rfl rfl (by kernel_rfl) (by kernel_rfl) (by kernel_rfl) (fun _ _ _ h => h) ⟨Or.inl ⟨by rfl, ?_⟩, fun _ => rfl⟩ ?_
          rotate_left
          · (intro w; go_simp; try (with_reducible rfl))
          refine wpAnyIn_ready (rs := [5, 11]) (by kernel_rfl) (by simp) ?_
          refine AllReadyIn.cons rfl (fun K hK => ?_) ?_
          focus
            go_simp
            refine hK _ _ ?_
            clear hK K
            refine wpAnyIn_ready (rs := [11]) (by kernel_rfl) (by simp) ?_
            refine AllReadyIn.cons rfl (fun K hK => ?_) AllReadyIn.nil
            go_simp
            refine hK _ _ ?_
            clear hK K
          rotate_left
          focus
            refine AllReadyIn.cons rfl (fun K hK => ?_) AllReadyIn.nil
            go_simp
            refine hK _ _ ?_
            clear hK K
            refine wpAnyIn_ready (rs := [5]) (by kernel_rfl) (by simp) ?_
            refine AllReadyIn.cons rfl (fun K hK => ?_) AllReadyIn.nil
            go_simp
            refine hK _ _ ?_
            clear hK K
    all_goals
      refine wpAnyIn_ready (rs := [12]) (by kernel_rfl) (by simp) ?_
      refine AllReadyIn.cons rfl (fun K hK => ?_) AllReadyIn.nil
      try rw [alloc_drew]
      refine step_appIn (fun _ => trivial) rfl (.tmp 66) (.tmp 72) 49 49 rfl hE ((HO.out.ext (ext_drew _)).alloc _) rfl rfl (srcManyE Tryz.underlying49 _ _ _ _ 2 _ (by simp) rfl (by simp [Value.oneCell'])) (by first | (simp [maxLen]; done) | (simp [maxLen]; omega)) (by omega) ?_
      intro ao5 cap5 g5 W5 ho5 hg5 hon5
      refine hK _ _ ?_
      clear hK K
      have u1 := hon5.cell (b := m) (by simp; omega) HNe.out 1
      have u2 := hon5.frozen (b := m) (by simp; omega) HNe.out 1
      simp [go_sem, ↓IntWalk.iteOmega, mw1, mf1] at u1 u2
      refine wpAnyIn_take (i := 13) (v := ?_) rfl rfl (by kernel_rfl) (by kernel_rfl) (by kernel_rfl) (fun _ _ _ h => h) ⟨Or.inl ⟨by rfl, ?_⟩, fun _ => rfl⟩ ?_
      rotate_left
      · (intro w; go_simp; try (with_reducible rfl))
      refine wpAnyIn_take (i := 14) (v := ?_) rfl rfl (by kernel_rfl) (by kernel_rfl) (by kernel_rfl) (fun _ _ _ h => h) ⟨Or.inl ⟨by rfl, ?_⟩, fun _ => rfl⟩ ?_
      rotate_left
      · (intro w; go_simp; try (with_reducible rfl))
      refine wpAnyIn_take (i := 15) (v := ?_) rfl rfl (by kernel_rfl) (by kernel_rfl) (by kernel_rfl) (fun _ _ _ h => h) ⟨Or.inl ⟨by rfl, ?_⟩, fun _ => rfl⟩ ?_
      rotate_left
      · (intro w; go_simp; try (with_reducible rfl))
      refine wpAnyIn_ready (rs := [16]) (by kernel_rfl) (by simp) ?_
      refine AllReadyIn.cons rfl (fun K hK => ?_) AllReadyIn.nil
      go_simp
      refine hK _ _ ?_
      clear hK K
      refine wpAnyIn_done (by kernel_rfl) ?_ _
      go_end0
      have y0 := hon5.cell (b := m) (by simp; omega) HNe.out 0
      have y2 := hon5.cell (b := m) (by simp; omega) HNe.out 2
      have z0 := hon5.frozen (b := m) (by simp; omega) HNe.out 0
      have z2 := hon5.frozen (b := m) (by simp; omega) HNe.out 2
      simp [go_sem, ↓IntWalk.iteOmega, Hmw0.out, Hmw2.out, Hmf0.out, Hmf2.out] at y0 y2 z0 z2
      have hOn : Only (fun k => k = m) w W5 := (HwB.out.ext ((ext_drew wq).alloc (by simp) _)).trans hon5 (fun i _ e => by cases e)
      have hs5 := hOn.size
      have hg5' : ∀ k, g5 = some k → wq.heap.size ≤ k := fun k h => by
        rcases hg5 with e | e <;> rw [e] at h
        · cases h
        · cases h; simp
      have hMG := Hm.out
      have hS : OwnS arcRep (fun _ => False) W5 ao5 cap5 g5 85 [(x1, x2)] := ⟨[arcCs (x1, x2)], ho5, .cons (arcRep_ok ⟨Hx.out.2.1, Hx.out.2.2⟩) .nil⟩
      refine ⟨rfl, ao5, cap5, g5, take_done (row := (x0, [(x1, x2)])) y0 u1 y2 z0 u2 z2 hS ?_ (by omega) (fun e => by have := hg5' m e; omega) ?_, fun k h => by have := hg5' k h; omega, hOn.setCell (fun _ => rfl) _⟩
      · exact hMG.rd.only hOn (fun h0 k off e => hMG.lne k off e h0)
      · intro b o e h0
        refine ⟨hMG.lne b o e h0, fun e2 => ?_⟩
        have := hg5' b e2
        obtain ⟨b', o', e3, hb', _⟩ := hMG.rd.pos h0
        rw [e3] at e
        cases e
        omega
end Go.Proofs.YtcklfffeimnfeaaGreat

namespace Go.Proofs.YtcklfffeimnfeaaGreat
open Go.RowKit

/-- one cell of what is owned -/
theorem Own.setOne {w : World} {b cap n size : Nat} {e : TypeId} {xs : List Value} (h : Own w (some ⟨b, 0, none⟩) cap (some b) e size n xs) (j : Nat) (v : Value) :
    Own (w.setCell ⟨b, j, none⟩ v) (some ⟨b, 0, none⟩) cap (some b) e size n (xs.set j v) := by
  refine ⟨by rw [List.length_set]; exact h.1, ?_⟩
  rcases h.2 with ⟨h1, _⟩ | ⟨b', cur, hg, ha, hh, hn, hc, hs, ht⟩
  · cases h1
  · cases hg
    refine .inr ⟨b, cur.setIfInBounds j v, rfl, rfl, ?_, hn, hc, by simpa using hs, ?_⟩
    · show (w.heap.modify b _)[b]? = _
      rw [Array.getElem?_modify, if_pos rfl, hh]
      rfl
    · rw [Array.toList_setIfInBounds, ← ht, List.take_set]
theorem OwnS.arcAdd {w : World} {b cap : Nat} {e : TypeId} {l : List ArcD} {t y z : Nat} (h : OwnS arcRep (fun _ => False) w (some ⟨b, 0, none⟩) cap (some b) e (l ++ [(t, y)])) (hz : z < 4294967296) :
    OwnS arcRep (fun _ => False) (w.setCell ⟨b, l.length * 2 + 1, none⟩ (.int .u32 (z : Nat))) (some ⟨b, 0, none⟩) cap (some b) e (l ++ [(t, z)]) := by
  obtain ⟨css, ho, ha⟩ := h
  obtain ⟨m, cs, rfl, h1, h2⟩ := all2_snoc ha
  obtain ⟨c, d, rfl, ⟨rfl, ht⟩, ⟨rfl, hy⟩⟩ := h2
  have hl1 : m.flatten.length = l.length * 2 := all2_len h1
  refine ⟨m ++ [arcCs (t, z)], ?_, all2_append (forall2_imp (fun x ds h => arcRep.keep h (fun _ hb => hb.elim) (by simp)) h1) (.cons (arcRep_ok ⟨ht, hz⟩) .nil)⟩
  have h5 := ho.setOne (l.length * 2 + 1) (.int .u32 (z : Nat))
  have e1 : (m ++ [[Value.int .u32 (t : Nat)] ++ [Value.int .u32 (y : Nat)]]).flatten.set (l.length * 2 + 1) (.int .u32 (z : Nat)) = (m ++ [arcCs (t, z)]).flatten := by
    rw [List.flatten_append, List.flatten_append, List.set_append_right _ _ (by omega), hl1, show l.length * 2 + 1 - l.length * 2 = 1 by omega]
    rfl
  rw [← e1]
  simpa using h5
theorem MG.arcAdd {m fr : Nat} {A : List ArcD} {t y z : Nat} {last : List UInt8} {b cap : Nat} {lo : Option Addr} {lc : Nat} {w : World} (h : MG m (fr, A ++ [(t, y)]) last (some ⟨b, 0, none⟩) cap (some b) lo lc w) (hz : z < 4294967296) :
    MG m (fr, A ++ [(t, z)]) last (some ⟨b, 0, none⟩) cap (some b) lo lc (w.setCell ⟨b, A.length * 2 + 1, none⟩ (.int .u32 (z : Nat))) := by
  have hbm : b ≠ m := fun e => h.ne (by rw [e])
  have hmb : m ≠ b := fun e => hbm e.symm
  refine ⟨?_, ?_, ?_, (World.frozen?_setCell ..).trans h.f0, (World.frozen?_setCell ..).trans h.f1, (World.frozen?_setCell ..).trans h.f2, h.own.arcAdd hz, ?_, by simpa using h.lt, h.ne, h.lne⟩
  · rw [World.cell?_setCell_other _ _ _ _ (by simp [hmb])]; exact h.c0
  · rw [World.cell?_setCell_other _ _ _ _ (by simp [hmb])]; have := h.c1; simpa using this
  · rw [World.cell?_setCell_other _ _ _ _ (by simp [hmb])]; exact h.c2
  · exact h.rd.only ((Only.refl (fun k => k = b) w).setCell (p := ⟨b, A.length * 2 + 1, none⟩) (fun _ => rfl) _) (fun h0 k off e hk => (h.lne k off e h0).2 (by rw [hk]))
theorem takeM_same {row : RowD} {x : EdgeD} (h : sameRow row x) {A : List ArcD} {t y : Nat} (ha : row.2 = A ++ [(t, y)]) : mtakeM row x = if t = x.2.1 then (row.1, A ++ [(t, y + x.2.2)]) else (row.1, row.2 ++ [(x.2.1, x.2.2)]) := by
  unfold mtakeM
  rw [if_pos h]
  unfold addArc
  rw [ha]
  simp only [List.getLast?_concat, List.dropLast_concat]
  split <;> rfl

theorem take_same (m : Nat) (row : RowD) (last : List UInt8) (ao : Option Addr) (cap : Nat) (g : Option Nat) (lo : Option Addr) (lc : Nat) (x : EdgeD) (w : World) (h : MG m row last ao cap g lo lc w) (hx : okE x) (hlen : row.2.length ≤ 1073741824)
    (hleft : x.2.2 ≤ leftOf row x) (hs : sameRow row x) (hsm : sumA row.2 ≤ 2147483647) :
    Calls Tryz.prog 107 #[.pointer (some ⟨m, 0, none⟩), edgeV x] w fun e w' => e = .returned (.tuple #[]) ∧ ∃ ao' cap' g', MG m (mtakeM row x) last ao' cap' g' lo lc w' ∧ (∀ k, g' = some k → g = some k ∨ w.heap.size ≤ k) ∧ Only (fun k => k = m ∨ g = some k) w w' := by
  have hE := arcElem
  have hFull := fun (W : World) (hB : Below w.heap.size w W) => full_any m row last ao cap lo lc x W (h.ext hB).toH
  have hfb : fullB row x = false := by
    unfold fullB
    simp [hs.2]
  rw [hfb] at hFull
  obtain ⟨A, ⟨t, y⟩, ha⟩ : ∃ A a, row.2 = A ++ [a] := ⟨row.2.dropLast, row.2.getLast (fun e => by have := hs.1; rw [e] at this; simp at this), (List.dropLast_concat_getLast _).symm⟩
  have htk := takeM_same hs ha
  have hsum : y + x.2.2 ≤ 2147483647 := by
    unfold leftOf at hleft
    rw [if_pos hs, ha] at hleft
    rw [ha] at hsm
    unfold sumA at hleft hsm
    rw [List.map_append, List.sum_append] at hleft hsm
    simp at hleft hsm
    omega
  rw [htk]
  obtain ⟨x0, x1, x2⟩ := x
  obtain ⟨fr, arcs⟩ := row
  simp only at ha hlen hsum hs
  subst ha
  obtain rfl : fr = x0 := hs.2
  obtain ⟨b, rfl, rfl, hbw⟩ : ∃ b, g = some b ∧ ao = some ⟨b, 0, none⟩ ∧ b < w.heap.size := by
    obtain ⟨css, ho, _⟩ := h.own
    exact ho.pos (by simp)
  obtain ⟨b', off', hbb, _, ca0', ca1', hoka⟩ := h.own.rd.arc A.length (by simp)
  cases hbb
  simp only [edgeV] at hFull ⊢
  have Hm := Lib.hid h
  have HFull := Lib.hid hFull
  have hmlt := h.lt
  have mc0 := h.c0
  have mc1 := h.c1
  have mf0 := h.f0
  have mf1 := h.f1
  have mc2 := h.c2
  have mf2 := h.f2
  have Hx := Lib.hid hx
  simp at mc0 mc1 ca0' ca1' hlen
  have hbm : b ≠ m := fun e => h.ne (by rw [e])
  have hmw : ¬ m = w.heap.size := by omega
  have hmw2 : ¬ w.heap.size = m := by omega
  generalize hk : A.length = k at mc1 ca0' ca1' hlen
  have Hk := Lib.hid hk
  obtain ⟨fa, _⟩ : (w.frozen? ⟨b, k * 2 + 1, none⟩ = false) ∧ True := by
    obtain ⟨css, ho, _⟩ := h.own
    exact ⟨ho.frozen _, trivial⟩
  clear hFull h htk hk hfb hleft hs hoka hx
  have hd0 : ((k : Int) + 1 == 0) = false := by simp; omega
  have hd : decide ((0 : Int) < (k : Int) + 1) = true := decide_eq_true (by omega)
  have hd' : decide (0 < k + 1) = true := decide_eq_true (by omega)
  by_cases hq : t = x1
  · have hq' : ((t : Int) == (x1 : Int)) = true := by simp [hq]
    rw [if_pos hq]
    clear hq
    go_enter Tryz.func107, Tryz.ntmps107
    go_wp2_with (go_at_call 106; refine (HFull.out _ (ext_alloc w _)).mono ?_; rintro e w2 ⟨rfl, hB2⟩; have e0 := ((bcell hB2).1 w.heap.size 0 (by simp)).trans (show _ = some (Value.int .u32 (fr : Nat)) by simp [go_sem]); have e1 := ((bcell hB2).1 w.heap.size 1 (by simp)).trans (show _ = some (Value.int .u32 (x1 : Nat)) by simp [go_sem]); have e2 := ((bcell hB2).1 w.heap.size 2 (by simp)).trans (show _ = some (Value.int .u32 (x2 : Nat)) by simp [go_sem]); have mc0 := ((bcell ((ext_alloc w _).trans (hB2.mono (by simp)))).1 m 0 hmlt).trans mc0; have mc1 := ((bcell ((ext_alloc w _).trans (hB2.mono (by simp)))).1 m 1 hmlt).trans mc1; have mf0 := ((bcell ((ext_alloc w _).trans (hB2.mono (by simp)))).2 m 0 hmlt).trans mf0; have mf1 := ((bcell ((ext_alloc w _).trans (hB2.mono (by simp)))).2 m 1 hmlt).trans mf1; have mc2 := ((bcell ((ext_alloc w _).trans (hB2.mono (by simp)))).1 m 2 hmlt).trans mc2; have mf2 := ((bcell ((ext_alloc w _).trans (hB2.mono (by simp)))).2 m 2 hmlt).trans mf2; have hz2 := hB2.size; have ca0 := ((bcell ((ext_alloc w _).trans (hB2.mono (by simp)))).1 b _ hbw).trans ca0'; have fa := ((bcell ((ext_alloc w _).trans (hB2.mono (by simp)))).2 b _ hbw).trans fa; have ca1 := ((bcell ((ext_alloc w _).trans (hB2.mono (by simp)))).1 b _ hbw).trans ca1'; simp at hz2; have HB2 := Lib.hid hB2; clear hB2)
    go_quiet (fail)
    go_wp2_with fail
    obtain ⟨wq, hwq⟩ : ∃ x, w2.drewN nq = x := ⟨_, rfl⟩
    have hwB : Below w.heap.size w wq := by
      rw [← hwq]
      exact below_drewN ((ext_alloc w _).trans (HB2.out.mono (by simp))) _
    have mw0 : wq.cell? ⟨m, 0, none⟩ = some (.int .u32 (fr : Nat)) := by rw [← hwq]; simp [go_sem, mc0]
    have mw1 : wq.cell? ⟨m, 1, none⟩ = some (.slice (some ⟨b, 0, none⟩) (k + 1) cap) := by rw [← hwq]; simp [go_sem, mc1]
    have mf1 : wq.frozen? ⟨m, 1, none⟩ = false := by rw [← hwq]; simp [go_sem, mf1]
    have e1 : wq.cell? ⟨w.heap.size, 1, none⟩ = some (.int .u32 (x1 : Nat)) := by rw [← hwq]; simp [go_sem, e1]
    have e2 : wq.cell? ⟨w.heap.size, 2, none⟩ = some (.int .u32 (x2 : Nat)) := by rw [← hwq]; simp [go_sem, e2]
    have ca1 : wq.cell? ⟨b, k * 2 + 1, none⟩ = some (.int .u32 (y : Nat)) := by rw [← hwq]; simp [go_sem, ca1]
    have fa : wq.frozen? ⟨b, k * 2 + 1, none⟩ = false := by rw [← hwq]; simp [go_sem, fa]
    have hzq : w.heap.size + 1 ≤ wq.heap.size := by rw [← hwq]; simpa using hz2
    have mw2 : wq.cell? ⟨m, 2, none⟩ = some (.slice lo last.length lc) := by rw [← hwq]; simp [go_sem, mc2]
    have mf0q : wq.frozen? ⟨m, 0, none⟩ = false := by rw [← hwq]; simp [go_sem, mf0]
    have mf2q : wq.frozen? ⟨m, 2, none⟩ = false := by rw [← hwq]; simp [go_sem, mf2]
    have HwB := Lib.hid hwB
    rw [hwq]
    clear hwq hwB mc0 mc1 mc2 mf0 mf2 e0 ca0
    have hkw : IntKind.i64.wrap (k : Int) = (k : Int) := IntWalk.i64_in _ (by omega)
    have hk0 : (0 : Int) ≤ (k : Int) := by omega
    have hk1 : (k : Int) < (k : Int) + 1 := by omega
    refine (wpIn_wide (n := 0)).1 ?_
    refine wpIn_region_any (by kernel_rfl) ?_
    change wpAnyIn _ _ _ _ _ _ _ _ _ (World.drew _)
    refine wpAnyIn_take (i := 0) (v := ?_) rfl rfl (by kernel_rfl) (by kernel_rfl) (by kernel_rfl) (fun _ _ _ h => h) ⟨Or.inl ⟨by rfl, ?_⟩, fun _ => rfl⟩ ?_
    rotate_left
    · (intro w; go_simp; try (with_reducible rfl))
    refine wpAnyIn_take (i := 1) (v := ?_) rfl rfl (by kernel_rfl) (by kernel_rfl) (by kernel_rfl) (fun _ _ _ h => h) ⟨Or.inl ⟨by rfl, ?_⟩, fun _ => rfl⟩ ?_
    rotate_left
    · (intro w; go_simp; try (with_reducible rfl))
    refine wpAnyIn_take (i := 2) (v := ?_) rfl rfl (by kernel_rfl) (by kernel_rfl) (by kernel_rfl) (fun _ _ _ h => h) ⟨Or.inl ⟨by rfl, ?_⟩, fun _ => rfl⟩ ?_
    rotate_left
    · (intro w; go_simp; try (with_reducible rfl))
    refine wpAnyIn_take (i := 3) (v := ?_) rfl rfl (by kernel_rfl) (by kernel_rfl) (by kernel_rfl) (fun _ _ _ h => h) ⟨Or.inl ⟨by rfl, ?_⟩, fun _ => rfl⟩ ?_
    rotate_left
    · (intro w; go_simp; try (with_reducible rfl))
    refine wpAnyIn_take (i := 5) (v := ?_) rfl rfl (by kernel_rfl) (by kernel_rfl) (by kernel_rfl) (fun _ _ _ h => h) ⟨Or.inl ⟨by rfl, ?_⟩, fun _ => rfl⟩ ?_
    rotate_left
    · (intro w; go_simp; try (with_reducible rfl))
    refine wpAnyIn_take (i := 6) (v := ?_) rfl rfl (by kernel_rfl) (by kernel_rfl) (by kernel_rfl) (fun _ _ _ h => h) ⟨Or.inl ⟨by rfl, ?_⟩, fun _ => rfl⟩ ?_
    rotate_left
    · (intro w; go_simp; try (with_reducible rfl))
    refine wpAnyIn_take (i := 10) (v := ?_) rfl rfl (by kernel_rfl) (by kernel_rfl) (by kernel_rfl) (fun _ _ _ h => h) ⟨Or.inl ⟨by rfl, ?_⟩, fun _ => rfl⟩ ?_
    rotate_left
    · (intro w; go_simp; try (with_reducible rfl))
    refine wpAnyIn_ready (rs := [4, 11]) (by kernel_rfl) (by simp) ?_
    refine AllReadyIn.cons rfl (fun K hK => ?_) ?_
    · go_simp
      refine hK _ _ ?_
      clear hK K
      refine wpAnyIn_take (i := 7) (v := ?_) rfl rfl (by kernel_rfl) (by kernel_rfl) (by kernel_rfl) (fun _ _ _ h => h) ⟨Or.inl ⟨by rfl, ?_⟩, fun _ => rfl⟩ ?_
      rotate_left
      · (intro w; go_simp; try (with_reducible rfl))
      refine wpAnyIn_take (i := 8) (v := ?_) rfl rfl (by kernel_rfl) (by kernel_rfl) (by kernel_rfl) (fun _ _ _ h => h) ⟨Or.inl ⟨by rfl, ?_⟩, fun _ => rfl⟩ ?_
      rotate_left
      · (intro w; go_simp; try (with_reducible rfl))
      refine wpAnyIn_ready (rs := [9, 11]) (by kernel_rfl) (by simp) ?_
      refine AllReadyIn.cons rfl (fun K hK => ?_) ?_
      · go_simp
        refine hK _ _ ?_
        clear hK K
        refine wpAnyIn_ready (rs := [11]) (by kernel_rfl) (by simp) ?_
        refine AllReadyIn.cons rfl (fun K hK => ?_) AllReadyIn.nil
        go_simp
        refine hK _ _ ?_
        clear hK K
        refine wpAnyIn_take (i := 12) (v := ?_) rfl rfl (by kernel_rfl) (by kernel_rfl) (by kernel_rfl) (fun _ _ _ h => h) ⟨Or.inl ⟨by rfl, ?_⟩, fun _ => rfl⟩ ?_
        rotate_left
        · (intro w; go_simp; try (with_reducible rfl))
        refine wpAnyIn_take (i := 13) (v := ?_) rfl rfl (by kernel_rfl) (by kernel_rfl) (by kernel_rfl) (fun _ _ _ h => h) ⟨Or.inl ⟨by rfl, ?_⟩, fun _ => rfl⟩ ?_
        rotate_left
        · (intro w; go_simp; try (with_reducible rfl))
        refine wpAnyIn_take (i := 14) (v := ?_) rfl rfl (by kernel_rfl) (by kernel_rfl) (by kernel_rfl) (fun _ _ _ h => h) ⟨Or.inl ⟨by rfl, ?_⟩, fun _ => rfl⟩ ?_
        rotate_left
        · (intro w; go_simp; try (with_reducible rfl))
        refine wpAnyIn_ready (rs := [15]) (by kernel_rfl) (by simp) ?_
        refine AllReadyIn.cons rfl (fun K hK => ?_) AllReadyIn.nil
        go_simp
        refine hK _ _ ?_
        clear hK K
        refine wpAnyIn_done (by kernel_rfl) ?_ _
        go_wp2
        refine bodyPost_ret (v := .tuple #[]) (results_none rfl _ _ _) rfl ⟨rfl, some ⟨b, 0, none⟩, cap, some b, ?_, fun _ h => .inl h, ?_⟩
        · have e := (Hm.out.ext HwB.out).arcAdd (z := y + x2) (by omega)
          rw [Hk.out, Int.natCast_add] at e
          rw [show IntKind.u32.wrap ((y : Int) + (x2 : Int)) = (y : Int) + (x2 : Int) from IntWalk.u32_in _ (by omega)]
          exact e.ext (ext_drew _)
        · exact ((Only.of_below HwB.out).setCell (fun _ => .inr rfl) _).drew
      · refine AllReadyIn.cons rfl (fun K hK => ?_) AllReadyIn.nil
        go_simp
        refine hK _ _ ?_
        clear hK K
        refine wpAnyIn_ready (rs := [9]) (by kernel_rfl) (by simp) ?_
        refine AllReadyIn.cons rfl (fun K hK => ?_) AllReadyIn.nil
        go_simp
        refine hK _ _ ?_
        clear hK K
        refine wpAnyIn_take (i := 12) (v := ?_) rfl rfl (by kernel_rfl) (by kernel_rfl) (by kernel_rfl) (fun _ _ _ h => h) ⟨Or.inl ⟨by rfl, ?_⟩, fun _ => rfl⟩ ?_
        rotate_left
        · (intro w; go_simp; try (with_reducible rfl))
        refine wpAnyIn_take (i := 13) (v := ?_) rfl rfl (by kernel_rfl) (by kernel_rfl) (by kernel_rfl) (fun _ _ _ h => h) ⟨Or.inl ⟨by rfl, ?_⟩, fun _ => rfl⟩ ?_
        rotate_left
        · (intro w; go_simp; try (with_reducible rfl))
        refine wpAnyIn_take (i := 14) (v := ?_) rfl rfl (by kernel_rfl) (by kernel_rfl) (by kernel_rfl) (fun _ _ _ h => h) ⟨Or.inl ⟨by rfl, ?_⟩, fun _ => rfl⟩ ?_
        rotate_left
        · (intro w; go_simp; try (with_reducible rfl))
        refine wpAnyIn_ready (rs := [15]) (by kernel_rfl) (by simp) ?_
        refine AllReadyIn.cons rfl (fun K hK => ?_) AllReadyIn.nil
        go_simp
        refine hK _ _ ?_
        clear hK K
        refine wpAnyIn_done (by kernel_rfl) ?_ _
        go_wp2
        refine bodyPost_ret (v := .tuple #[]) (results_none rfl _ _ _) rfl ⟨rfl, some ⟨b, 0, none⟩, cap, some b, ?_, fun _ h => .inl h, ?_⟩
        · have e := (Hm.out.ext HwB.out).arcAdd (z := y + x2) (by omega)
          rw [Hk.out, Int.natCast_add] at e
          rw [show IntKind.u32.wrap ((y : Int) + (x2 : Int)) = (y : Int) + (x2 : Int) from IntWalk.u32_in _ (by omega)]
          exact e.ext (ext_drew _)
        · exact ((Only.of_below HwB.out).setCell (fun _ => .inr rfl) _).drew
    · refine AllReadyIn.cons rfl (fun K hK => ?_) AllReadyIn.nil
      go_simp
      refine hK _ _ ?_
      clear hK K
      refine wpAnyIn_ready (rs := [4]) (by kernel_rfl) (by simp) ?_
      refine AllReadyIn.cons rfl (fun K hK => ?_) AllReadyIn.nil
      go_simp
      refine hK _ _ ?_
      clear hK K
      refine wpAnyIn_take (i := 7) (v := ?_) rfl rfl (by kernel_rfl) (by kernel_rfl) (by kernel_rfl) (fun _ _ _ h => h) ⟨Or.inl ⟨by rfl, ?_⟩, fun _ => rfl⟩ ?_
      rotate_left
      · (intro w; go_simp; try (with_reducible rfl))
      refine wpAnyIn_take (i := 8) (v := ?_) rfl rfl (by kernel_rfl) (by kernel_rfl) (by kernel_rfl) (fun _ _ _ h => h) ⟨Or.inl ⟨by rfl, ?_⟩, fun _ => rfl⟩ ?_
      rotate_left
      · (intro w; go_simp; try (with_reducible rfl))
      refine wpAnyIn_ready (rs := [9]) (by kernel_rfl) (by simp) ?_
      refine AllReadyIn.cons rfl (fun K hK => ?_) AllReadyIn.nil
      go_simp
      refine hK _ _ ?_
      clear hK K
      refine wpAnyIn_take (i := 12) (v := ?_) rfl rfl (by kernel_rfl) (by kernel_rfl) (by kernel_rfl) (fun _ _ _ h => h) ⟨Or.inl ⟨by rfl, ?_⟩, fun _ => rfl⟩ ?_
      rotate_left
      · (intro w; go_simp; try (with_reducible rfl))
      refine wpAnyIn_take (i := 13) (v := ?_) rfl rfl (by kernel_rfl) (by kernel_rfl) (by kernel_rfl) (fun _ _ _ h => h) ⟨Or.inl ⟨by rfl, ?_⟩, fun _ => rfl⟩ ?_
      rotate_left
      · (intro w; go_simp; try (with_reducible rfl))
      refine wpAnyIn_take (i := 14) (v := ?_) rfl rfl (by kernel_rfl) (by kernel_rfl) (by kernel_rfl) (fun _ _ _ h => h) ⟨Or.inl ⟨by rfl, ?_⟩, fun _ => rfl⟩ ?_
      rotate_left
      · (intro w; go_simp; try (with_reducible rfl))
      refine wpAnyIn_ready (rs := [15]) (by kernel_rfl) (by simp) ?_
      refine AllReadyIn.cons rfl (fun K hK => ?_) AllReadyIn.nil
      go_simp
      refine hK _ _ ?_
      clear hK K
      refine wpAnyIn_done (by kernel_rfl) ?_ _
      go_wp2
      refine bodyPost_ret (v := .tuple #[]) (results_none rfl _ _ _) rfl ⟨rfl, some ⟨b, 0, none⟩, cap, some b, ?_, fun _ h => .inl h, ?_⟩
      · have e := (Hm.out.ext HwB.out).arcAdd (z := y + x2) (by omega)
        rw [Hk.out, Int.natCast_add] at e
        rw [show IntKind.u32.wrap ((y : Int) + (x2 : Int)) = (y : Int) + (x2 : Int) from IntWalk.u32_in _ (by omega)]
        exact e.ext (ext_drew _)
      · exact ((Only.of_below HwB.out).setCell (fun _ => .inr rfl) _).drew
  · have hq' : ((t : Int) == (x1 : Int)) = false := by simp; omega
    rw [if_neg hq]
    clear hq
    go_enter Tryz.func107, Tryz.ntmps107
    go_wp2_with (go_at_call 106; refine (HFull.out _ (ext_alloc w _)).mono ?_; rintro e w2 ⟨rfl, hB2⟩; have e0 := ((bcell hB2).1 w.heap.size 0 (by simp)).trans (show _ = some (Value.int .u32 (fr : Nat)) by simp [go_sem]); have e1 := ((bcell hB2).1 w.heap.size 1 (by simp)).trans (show _ = some (Value.int .u32 (x1 : Nat)) by simp [go_sem]); have e2 := ((bcell hB2).1 w.heap.size 2 (by simp)).trans (show _ = some (Value.int .u32 (x2 : Nat)) by simp [go_sem]); have mc0 := ((bcell ((ext_alloc w _).trans (hB2.mono (by simp)))).1 m 0 hmlt).trans mc0; have mc1 := ((bcell ((ext_alloc w _).trans (hB2.mono (by simp)))).1 m 1 hmlt).trans mc1; have mf0 := ((bcell ((ext_alloc w _).trans (hB2.mono (by simp)))).2 m 0 hmlt).trans mf0; have mf1 := ((bcell ((ext_alloc w _).trans (hB2.mono (by simp)))).2 m 1 hmlt).trans mf1; have mc2 := ((bcell ((ext_alloc w _).trans (hB2.mono (by simp)))).1 m 2 hmlt).trans mc2; have mf2 := ((bcell ((ext_alloc w _).trans (hB2.mono (by simp)))).2 m 2 hmlt).trans mf2; have hz2 := hB2.size; have ca0 := ((bcell ((ext_alloc w _).trans (hB2.mono (by simp)))).1 b _ hbw).trans ca0'; have fa := ((bcell ((ext_alloc w _).trans (hB2.mono (by simp)))).2 b _ hbw).trans fa; have ca1 := ((bcell ((ext_alloc w _).trans (hB2.mono (by simp)))).1 b _ hbw).trans ca1'; simp at hz2; have HB2 := Lib.hid hB2; clear hB2)
    go_quiet (fail)
    go_wp2_with fail
    obtain ⟨wq, hwq⟩ : ∃ x, w2.drewN nq = x := ⟨_, rfl⟩
    have hwB : Below w.heap.size w wq := by
      rw [← hwq]
      exact below_drewN ((ext_alloc w _).trans (HB2.out.mono (by simp))) _
    have mw0 : wq.cell? ⟨m, 0, none⟩ = some (.int .u32 (fr : Nat)) := by rw [← hwq]; simp [go_sem, mc0]
    have mw1 : wq.cell? ⟨m, 1, none⟩ = some (.slice (some ⟨b, 0, none⟩) (k + 1) cap) := by rw [← hwq]; simp [go_sem, mc1]
    have mf1 : wq.frozen? ⟨m, 1, none⟩ = false := by rw [← hwq]; simp [go_sem, mf1]
    have e1 : wq.cell? ⟨w.heap.size, 1, none⟩ = some (.int .u32 (x1 : Nat)) := by rw [← hwq]; simp [go_sem, e1]
    have e2 : wq.cell? ⟨w.heap.size, 2, none⟩ = some (.int .u32 (x2 : Nat)) := by rw [← hwq]; simp [go_sem, e2]
    have ca1 : wq.cell? ⟨b, k * 2 + 1, none⟩ = some (.int .u32 (y : Nat)) := by rw [← hwq]; simp [go_sem, ca1]
    have fa : wq.frozen? ⟨b, k * 2 + 1, none⟩ = false := by rw [← hwq]; simp [go_sem, fa]
    have hzq : w.heap.size + 1 ≤ wq.heap.size := by rw [← hwq]; simpa using hz2
    have mw2 : wq.cell? ⟨m, 2, none⟩ = some (.slice lo last.length lc) := by rw [← hwq]; simp [go_sem, mc2]
    have mf0q : wq.frozen? ⟨m, 0, none⟩ = false := by rw [← hwq]; simp [go_sem, mf0]
    have mf2q : wq.frozen? ⟨m, 2, none⟩ = false := by rw [← hwq]; simp [go_sem, mf2]
    have HwB := Lib.hid hwB
    rw [hwq]
    clear hwq hwB mc0 mc1 mc2 mf0 mf2 e0 ca0
    have HNe : Hid (some b ≠ some m) := Lib.hid (fun e => hbm (by simpa using e))
    obtain ⟨css, hown, hall⟩ := Hm.out.own
    have HAll := Lib.hid hall
    have hown2 : Own wq (some ⟨b, 0, none⟩) cap (some b) 85 2 (k + 1) css.flatten := by
      have h := hown.ext HwB.out
      rw [show ((fr, A ++ [(t, y)]) : RowD).2.length = k + 1 by simp [Hk.out]] at h
      exact h
    have HO := Lib.hid hown2
    have Hmw2 := Lib.hid mw2
    have Hmf0 := Lib.hid mf0q
    have Hmf2 := Lib.hid mf2q
    have hmq : ¬ m = wq.heap.size := by omega
    have hmq2 : ¬ wq.heap.size = m := by omega
    have hsq : ¬ w.heap.size = wq.heap.size := by omega
    have hsq2 : ¬ wq.heap.size = w.heap.size := by omega
    clear hown hall hown2 mw2 mf0q mf2q ca1 fa
    refine (wpIn_wide (n := 0)).1 ?_
    refine wpIn_region_any (by kernel_rfl) ?_
    change wpAnyIn _ _ _ _ _ _ _ _ _ (World.drew _)
    refine wpAnyIn_take (i := 0) (v := ?_) rfl rfl (by kernel_rfl) (by kernel_rfl) (by kernel_rfl) (fun _ _ _ h => h) ⟨Or.inl ⟨by rfl, ?_⟩, fun _ => rfl⟩ ?_
    rotate_left
    · (intro w; go_simp; try (with_reducible rfl))
    refine wpAnyIn_take (i := 1) (v := ?_) rfl rfl (by kernel_rfl) (by kernel_rfl) (by kernel_rfl) (fun _ _ _ h => h) ⟨Or.inl ⟨by rfl, ?_⟩, fun _ => rfl⟩ ?_
    rotate_left
    · (intro w; go_simp; try (with_reducible rfl))
    refine wpAnyIn_take (i := 2) (v := ?_) rfl rfl (by kernel_rfl) (by kernel_rfl) (by kernel_rfl) (fun _ _ _ h => h) ⟨Or.inl ⟨by rfl, ?_⟩, fun _ => rfl⟩ ?_
    rotate_left
    · (intro w; go_simp; try (with_reducible rfl))
    refine wpAnyIn_take (i := 3) (v := ?_) rfl rfl (by kernel_rfl) (by kernel_rfl) (by kernel_rfl) (fun _ _ _ h => h) ⟨Or.inl ⟨by rfl, ?_⟩, fun _ => rfl⟩ ?_
    rotate_left
    · (intro w; go_simp; try (with_reducible rfl))
    refine wpAnyIn_take (i := 4) (v := ?_) rfl rfl (by kernel_rfl) (by kernel_rfl) (by kernel_rfl) (fun _ _ _ h => h) ⟨Or.inl ⟨by rfl, ?_⟩, fun _ => rfl⟩ ?_
    rotate_left
    · (intro w; go_simp; try (with_reducible rfl))
    refine wpAnyIn_take (i := 6) (v := ?_) rfl rfl (by kernel_rfl) (by kernel_rfl) (by kernel_rfl) (fun _ _ _ h => h) ⟨Or.inl ⟨by rfl, ?_⟩, fun _ => rfl⟩ ?_
    rotate_left
    · (intro w; go_simp; try (with_reducible rfl))
    refine wpAnyIn_take (i := 8) (v := ?_) rfl rfl (by kernel_rfl) (by kernel_rfl) (by kernel_rfl) (fun _ _ _ h => h) ⟨Or.inl ⟨by rfl, ?_⟩, fun _ => rfl⟩ ?_
    rotate_left
    · (intro w; go_simp; try (with_reducible rfl))
    refine wpAnyIn_ready (rs := [5, 7, 9]) (by kernel_rfl) (by simp) ?_
    refine AllReadyIn.cons rfl (fun K hK => ?_) ?_
    focus
      go_simp
      refine hK _ _ ?_
      clear hK K
      refine wpAnyIn_ready (rs := [7, 9]) (by kernel_rfl) (by simp) ?_
      refine AllReadyIn.cons rfl (fun K hK => ?_) ?_
      focus
        go_simp
        refine hK _ _ ?_
        clear hK K
        refine wpAnyIn_ready (rs := [9]) (by kernel_rfl) (by simp) ?_
        refine AllReadyIn.cons rfl (fun K hK => ?_) AllReadyIn.nil
        go_simp
        refine hK _ _ ?_
        clear hK K
        refine wpAnyIn_take (i := 10) (v := ?_) rfl rfl (by kernel_rfl) (by kernel_rfl) (by kernel_rfl) (fun _ _ _ h => h) ⟨Or.inl ⟨by rfl, ?_⟩, fun _ => rfl⟩ ?_
        rotate_left
        · (intro w; go_simp; try (with_reducible rfl))
        refine wpAnyIn_ready (rs := [11]) (by kernel_rfl) (by simp) ?_
        refine AllReadyIn.cons rfl (fun K hK => ?_) AllReadyIn.nil
        go_simp
        refine hK _ _ ?_
        clear hK K
      rotate_left
      focus
        refine AllReadyIn.cons rfl (fun K hK => ?_) AllReadyIn.nil
        go_simp
        refine hK _ _ ?_
        clear hK K
        refine wpAnyIn_ready (rs := [7]) (by kernel_rfl) (by simp) ?_
        refine AllReadyIn.cons rfl (fun K hK => ?_) AllReadyIn.nil
        go_simp
        refine hK _ _ ?_
        clear hK K
        refine wpAnyIn_take (i := 10) (v := ?_) rfl rfl (by kernel_rfl) (by kernel_rfl) (by kernel_rfl) (fun _ _ _ h => h) ⟨Or.inl ⟨by rfl, ?_⟩, fun _ => rfl⟩ ?_
        rotate_left
        · (intro w; go_simp; try (with_reducible rfl))
        refine wpAnyIn_ready (rs := [11]) (by kernel_rfl) (by simp) ?_
        refine AllReadyIn.cons rfl (fun K hK => ?_) AllReadyIn.nil
        go_simp
        refine hK _ _ ?_
        clear hK K
    rotate_left 2
    focus
      refine AllReadyIn.cons rfl (fun K hK => ?_) ?_
      focus
        go_simp
        refine hK _ _ ?_
        clear hK K
        refine wpAnyIn_ready (rs := [5, 9]) (by kernel_rfl) (by simp) ?_
        refine AllReadyIn.cons rfl (fun K hK => ?_) ?_
        focus
          go_simp
          refine hK _ _ ?_
          clear hK K
          refine wpAnyIn_ready (rs := [9]) (by kernel_rfl) (by simp) ?_
          refine AllReadyIn.cons rfl (fun K hK => ?_) AllReadyIn.nil
          go_simp
          refine hK _ _ ?_
          clear hK K
          refine wpAnyIn_take (i := 10) (v := ?_) rfl rfl (by kernel_rfl) (by kernel_rfl) (by kernel_rfl) (fun _ _ _ h => h) ⟨Or.inl ⟨by rfl, ?_⟩, fun _ => rfl⟩ ?_
          rotate_left
          · (intro w; go_simp; try (with_reducible rfl))
          refine wpAnyIn_ready (rs := [11]) (by kernel_rfl) (by simp) ?_
          refine AllReadyIn.cons rfl (fun K hK => ?_) AllReadyIn.nil
          go_simp
          refine hK _ _ ?_
          clear hK K
        rotate_left
        focus
          refine AllReadyIn.cons rfl (fun K hK => ?_) AllReadyIn.nil
          go_simp
          refine hK _ _ ?_
          clear hK K
          refine wpAnyIn_take (i := 10) (v := ?_) rfl rfl (by kernel_rfl) (by kernel_rfl) (by kernel_rfl) (fun _ _ _ h => h) ⟨Or.inl ⟨by rfl, ?_⟩, fun _ => rfl⟩ ?_
          rotate_left
          · (intro w; go_simp; try (with_reducible rfl))
          refine wpAnyIn_ready (rs := [5, 11]) (by kernel_rfl) (by simp) ?_
          refine AllReadyIn.cons rfl (fun K hK => ?_) ?_
          focus
            go_simp
            refine hK _ _ ?_
            clear hK K
            refine wpAnyIn_ready (rs := [11]) (by kernel_rfl) (by simp) ?_
            refine AllReadyIn.cons rfl (fun K hK => ?_) AllReadyIn.nil
            go_simp
            refine hK _ _ ?_
            clear hK K
          rotate_left
          focus
            refine AllReadyIn.cons rfl (fun K hK => ?_) AllReadyIn.nil
            go_simp
            refine hK _ _ ?_
            clear hK K
            refine wpAnyIn_ready (rs := [5]) (by kernel_rfl) (by simp) ?_
            refine AllReadyIn.cons rfl (fun K hK => ?_) AllReadyIn.nil
            go_simp
            refine hK _ _ ?_
            clear hK K
      rotate_left 3
      focus
        refine AllReadyIn.cons rfl (fun K hK => ?_) AllReadyIn.nil
        go_simp
        refine hK _ _ ?_
        clear hK K
        refine wpAnyIn_ready (rs := [5, 7]) (by kernel_rfl) (by simp) ?_
        refine AllReadyIn.cons rfl (fun K hK => ?_) ?_
        focus
          go_simp
          refine hK _ _ ?_
          clear hK K
          refine wpAnyIn_ready (rs := [7]) (by kernel_rfl) (by simp) ?_
          refine AllReadyIn.cons rfl (fun K hK => ?_) AllReadyIn.nil
          go_simp
          refine hK _ _ ?_
          clear hK K
          refine wpAnyIn_take (i := 10) (v := ?_) rfl rfl (by kernel_rfl) (by kernel_rfl) (by kernel_rfl) (fun _ _ _ h => h) ⟨Or.inl ⟨by rfl, ?_⟩, fun _ => rfl⟩ ?_
          rotate_left
          · (intro w; go_simp; try (with_reducible rfl))
          refine wpAnyIn_ready (rs := [11]) (by kernel_rfl) (by simp) ?_
          refine AllReadyIn.cons rfl (fun K hK => ?_) AllReadyIn.nil
          go_simp
          refine hK _ _ ?_
          clear hK K
        rotate_left
        focus
          refine AllReadyIn.cons rfl (fun K hK => ?_) AllReadyIn.nil
          go_simp
          refine hK _ _ ?_
          clear hK K
          refine wpAnyIn_take (i := 10) (v := ?_) rfl rfl (by kernel_rfl) (by kernel_rfl) (by kernel_rfl) (fun _ _ _ h => h) ⟨Or.inl ⟨by rfl, ?_⟩, fun _ => rfl⟩ ?_
          rotate_left
          · (intro w; go_simp; try (with_reducible rfl))
          refine wpAnyIn_ready (rs := [5, 11]) (by kernel_rfl) (by simp) ?_
          refine AllReadyIn.cons rfl (fun K hK => ?_) ?_
          focus
            go_simp
            refine hK _ _ ?_
            clear hK K
            refine wpAnyIn_ready (rs := [11]) (by kernel_rfl) (by simp) ?_
            refine AllReadyIn.cons rfl (fun K hK => ?_) AllReadyIn.nil
            go_simp
            refine hK _ _ ?_
            clear hK K
          rotate_left
          focus
            refine AllReadyIn.cons rfl (fun K hK => ?_) AllReadyIn.nil
            go_simp
            refine hK _ _ ?_
            clear hK K
            refine wpAnyIn_ready (rs := [5]) (by kernel_rfl) (by simp) ?_
            refine AllReadyIn.cons rfl (fun K hK => ?_) AllReadyIn.nil
            go_simp
            refine hK _ _ ?_
            clear hK K
    all_goals
      refine wpAnyIn_ready (rs := [12]) (by kernel_rfl) (by simp) ?_
      refine AllReadyIn.cons rfl (fun K hK => ?_) AllReadyIn.nil
      try rw [alloc_drew]
      refine step_appIn (fun _ => trivial) rfl (.tmp 66) (.tmp 72) 49 49 rfl hE ((HO.out.ext (ext_drew _)).alloc _) rfl rfl (srcManyE Tryz.underlying49 _ _ _ _ 2 _ (by simp) rfl (by simp [Value.oneCell'])) (by first | (simp [maxLen]; done) | (simp [maxLen]; omega)) (by omega) ?_
      intro ao5 cap5 g5 W5 ho5 hg5 hon5
      refine hK _ _ ?_
      clear hK K
      have u1 := hon5.cell (b := m) (by simp; omega) HNe.out 1
      have u2 := hon5.frozen (b := m) (by simp; omega) HNe.out 1
      simp [go_sem, ↓IntWalk.iteOmega, mw1, mf1] at u1 u2
      refine wpAnyIn_take (i := 13) (v := ?_) rfl rfl (by kernel_rfl) (by kernel_rfl) (by kernel_rfl) (fun _ _ _ h => h) ⟨Or.inl ⟨by rfl, ?_⟩, fun _ => rfl⟩ ?_
      rotate_left
      · (intro w; go_simp; try (with_reducible rfl))
      refine wpAnyIn_take (i := 14) (v := ?_) rfl rfl (by kernel_rfl) (by kernel_rfl) (by kernel_rfl) (fun _ _ _ h => h) ⟨Or.inl ⟨by rfl, ?_⟩, fun _ => rfl⟩ ?_
      rotate_left
      · (intro w; go_simp; try (with_reducible rfl))
      refine wpAnyIn_take (i := 15) (v := ?_) rfl rfl (by kernel_rfl) (by kernel_rfl) (by kernel_rfl) (fun _ _ _ h => h) ⟨Or.inl ⟨by rfl, ?_⟩, fun _ => rfl⟩ ?_
      rotate_left
      · (intro w; go_simp; try (with_reducible rfl))
      refine wpAnyIn_ready (rs := [16]) (by kernel_rfl) (by simp) ?_
      refine AllReadyIn.cons rfl (fun K hK => ?_) AllReadyIn.nil
      go_simp
      refine hK _ _ ?_
      clear hK K
      refine wpAnyIn_done (by kernel_rfl) ?_ _
      go_end0
      have y0 := hon5.cell (b := m) (by simp; omega) HNe.out 0
      have y2 := hon5.cell (b := m) (by simp; omega) HNe.out 2
      have z0 := hon5.frozen (b := m) (by simp; omega) HNe.out 0
      have z2 := hon5.frozen (b := m) (by simp; omega) HNe.out 2
      simp [go_sem, ↓IntWalk.iteOmega, mw0, Hmw2.out, Hmf0.out, Hmf2.out] at y0 y2 z0 z2
      have hOn : Only (fun k => k = m ∨ some b = some k) w W5 := ((Only.of_below (fp := fun k => k = m ∨ some b = some k) HwB.out).ext ((ext_drew wq).alloc (by simp) _)).trans hon5 (fun i _ e => .inr e)
      have hs5 := hOn.size
      have hg5' : ∀ k, g5 = some k → b = k ∨ wq.heap.size ≤ k := fun k h => by
        rcases hg5 with e | e <;> rw [e] at h
        · cases h; exact .inl rfl
        · cases h; simp
      have hMG := Hm.out
      have hS : OwnS arcRep (fun _ => False) W5 ao5 cap5 g5 85 (A ++ [(t, y)] ++ [(x1, x2)]) :=
        OwnS.snoc (w := w) (cs := arcCs (x1, x2)) HAll.out (arcRep_ok ⟨Hx.out.2.1, Hx.out.2.2⟩) (by have h := ho5; rw [← Hk.out] at h; simpa using (show Own W5 ao5 cap5 g5 85 arcRep.size (A.length + 1 + 1) (css.flatten ++ arcCs (x1, x2)) from h)) (fun _ hb => hb.elim) hs5
      have el : k + 1 + 1 = (A ++ [(t, y)] ++ [(x1, x2)]).length := by simp [Hk.out]
      refine ⟨rfl, ao5, cap5, g5, ?_, fun k h => by have := hg5' k h; rcases this with h | h; exact .inl (by rw [h]); exact .inr (by omega), hOn.setCell (fun _ => .inl rfl) _⟩
      rw [el]
      refine take_done (row := (fr, A ++ [(t, y)] ++ [(x1, x2)])) y0 u1 y2 z0 u2 z2 hS ?_ (by omega) (fun e => by have := hg5' m e; omega) ?_
      · exact hMG.rd.only hOn (fun h0 k off e h => h.elim (hMG.lne k off e h0).1 (hMG.lne k off e h0).2)
      · intro b' o e h0
        refine ⟨(hMG.lne b' o e h0).1, fun e2 => ?_⟩
        obtain ⟨b1, o', e3, hb', _⟩ := hMG.rd.pos h0
        have hne := (hMG.lne b' o e h0).2
        rw [e3] at e
        cases e
        rcases hg5' _ e2 with h | h
        · exact hne (by rw [h])
        · omega
end Go.Proofs.YtcklfffeimnfeaaGreat

namespace Go.Proofs.YtcklfffeimnfeaaGreat
open Go.RowKit

def okRow (row : RowD) : Prop := row.1 < 4294967296 ∧ (∀ a ∈ row.2, okA a) ∧ sumA row.2 ≤ 2147483647
theorem sumA_append (l m : List ArcD) : sumA (l ++ m) = sumA l + sumA m := by simp [sumA]
theorem sumA_one (a : ArcD) : sumA [a] = a.2 := by simp [sumA]
theorem addArc_snoc (l : List ArcD) (a : ArcD) (x : EdgeD) : addArc (l ++ [a]) x = if a.1 = x.2.1 then l ++ [(a.1, a.2 + x.2.2)] else l ++ [a] ++ [(x.2.1, x.2.2)] := by
  unfold addArc
  simp only [List.getLast?_concat, List.dropLast_concat]
theorem addArc_sum (l : List ArcD) (x : EdgeD) : sumA (addArc l x) = sumA l + x.2.2 := by
  rcases List.eq_nil_or_concat l with rfl | ⟨l', a, rfl⟩
  · simp [addArc, sumA]
  · rw [List.concat_eq_append, addArc_snoc]
    split <;> simp [sumA] <;> omega
theorem addArc_len (l : List ArcD) (x : EdgeD) : (addArc l x).length ≤ l.length + 1 ∧ 0 < (addArc l x).length := by
  rcases List.eq_nil_or_concat l with rfl | ⟨l', a, rfl⟩
  · simp [addArc]
  · rw [List.concat_eq_append, addArc_snoc]
    split <;> simp
theorem takeM_len (row : RowD) (x : EdgeD) : (mtakeM row x).2.length ≤ row.2.length + 1 ∧ 0 < (mtakeM row x).2.length := by
  unfold mtakeM
  split
  · exact addArc_len _ _
  · simp
theorem takeM_from (row : RowD) (x : EdgeD) : (mtakeM row x).1 = x.1 := by
  unfold mtakeM
  split
  · rename_i h; exact h.2
  · rfl
theorem takeM_ok {row : RowD} {x : EdgeD} (h : okRow row) (hx : okE x) (hl : x.2.2 ≤ leftOf row x) : okRow (mtakeM row x) := by
  refine ⟨by rw [takeM_from]; exact hx.1, ?_⟩
  unfold leftOf at hl
  unfold mtakeM
  obtain ⟨h1, h2, h3⟩ := h
  split
  · rename_i hs
    rw [if_pos hs] at hl
    simp only
    refine ⟨?_, by rw [addArc_sum]; omega⟩
    rcases List.eq_nil_or_concat row.2 with he | ⟨l', a, he⟩
    · have := hs.1; rw [he] at this; simp at this
    · rw [List.concat_eq_append] at he
      rw [he] at h2 h3 hl ⊢
      rw [sumA_append, sumA_one] at h3 hl
      rw [addArc_snoc]
      intro y hy
      split at hy
      · rcases List.mem_append.1 hy with h | h
        · exact h2 y (List.mem_append.2 (.inl h))
        · rw [List.mem_singleton.1 h]
          exact ⟨(h2 a (by simp)).1, by simp only; omega⟩
      · rcases List.mem_append.1 hy with h | h
        · exact h2 y h
        · rw [List.mem_singleton.1 h]
          exact ⟨hx.2.1, hx.2.2⟩
  · rename_i hs
    rw [if_neg hs] at hl
    simp only
    exact ⟨fun a ha => by rw [List.mem_singleton.1 ha]; exact ⟨hx.2.1, hx.2.2⟩, by rw [sumA_one]; exact hl⟩
theorem full_not {row : RowD} {x : EdgeD} (h : fullB row x = true) : ¬ sameRow row x := by
  unfold fullB at h
  rintro ⟨h1, h2⟩
  simp [h2] at h
/-- what is told of keys: rows, and at last an error's number (0: none) -/
def mtold : RowD → List UInt8 → List (List UInt8) → List RowD × Nat
  | row, _, [] => (if 0 < row.2.length then [row] else [], 0)
  | row, last, k :: ks =>
    if mayErr row last k ≠ 0 then ([], mayErr row last k) else
    ((if fullB row (keyE k) = true then [row] else []) ++ (mtold (mtakeM row (keyE k)) k ks).1, (mtold (mtakeM row (keyE k)) k ks).2)
def toldRE (row : RowD) (last : List UInt8) (ks : List (List UInt8)) : List (RowD × Nat) :=
  (mtold row last ks).1.map (fun p => (p, 0)) ++ if (mtold row last ks).2 = 0 then [] else [((0, []), (mtold row last ks).2)]
theorem toldRE_nil (row : RowD) (last : List UInt8) : toldRE row last [] = if 0 < row.2.length then [(row, 0)] else [] := by
  unfold toldRE mtold
  split <;> simp
theorem toldRE_bad (row : RowD) (last k : List UInt8) (ks : List (List UInt8)) (h : mayErr row last k ≠ 0) : toldRE row last (k :: ks) = [((0, []), mayErr row last k)] := by
  unfold toldRE mtold
  simp [h]
theorem toldRE_ok (row : RowD) (last k : List UInt8) (ks : List (List UInt8)) (h : mayErr row last k = 0) :
    toldRE row last (k :: ks) = (if fullB row (keyE k) = true then [(row, 0)] else []) ++ toldRE (mtakeM row (keyE k)) k ks := by
  unfold toldRE
  conv => lhs; unfold mtold
  rw [if_neg (by simp [h])]
  split <;> simp
theorem mtold_len : ∀ (ks : List (List UInt8)) (row : RowD) (last : List UInt8), (mtold row last ks).1.length ≤ ks.length + 1
  | [], row, last => by unfold mtold; split <;> simp
  | k :: ks, row, last => by
    have ih := mtold_len ks (mtakeM row (keyE k)) k
    unfold mtold
    split
    · simp
    · simp only [List.length_append, List.length_cons]
      split <;> simp <;> omega
theorem toldRE_len (ks : List (List UInt8)) (row : RowD) (last : List UInt8) : (toldRE row last ks).length ≤ ks.length + 2 := by
  unfold toldRE
  have := mtold_len ks row last
  rw [List.length_append, List.length_map]
  split <;> simp <;> omega
theorem may_ok {row : RowD} {last k : List UInt8} (h : mayErr row last k = 0) : k.length = 12 ∧ (keyE k).2.2 ≠ 0 ∧ ¬ Lib.compareBytes k last < 0 ∧ (keyE k).2.2 ≤ leftOf row (keyE k) := by
  unfold mayErr at h
  split at h
  · cases h
  · rename_i h1
    split at h
    · cases h
    · rename_i h2
      split at h
      · cases h
      · rename_i h3
        exact ⟨by omega, by omega, h2, by omega⟩
/-- all rows, or the error -/
def rowsOf (ks : List (List UInt8)) : List RowD × Nat := if (mtold (0, []) [] ks).2 = 0 then ((mtold (0, []) [] ks).1, 0) else ([], (mtold (0, []) [] ks).2)
theorem toldRE_all {α : Type} {ks : List (List UInt8)} {xs : List ((RowD × Nat) × α)} (h : xs.map (·.1) = toldRE (0, []) [] ks) (h0 : ∀ x ∈ xs, x.1.2 = 0) : rowsOf ks = (xs.map (·.1.1), 0) := by
  have he : (mtold (0, []) [] ks).2 = 0 := by
    apply Decidable.byContradiction
    intro hne
    have hm : ((0, []), (mtold (0, []) [] ks).2) ∈ toldRE (0, []) [] ks := by unfold toldRE; rw [if_neg hne]; simp
    rw [← h] at hm
    obtain ⟨x, hx, hx2⟩ := List.mem_map.1 hm
    have := h0 x hx
    rw [hx2] at this
    exact hne this
  have h2 : (mtold (0, []) [] ks).1 = xs.map (·.1.1) := by
    have h3 := congrArg (List.map (·.1)) h
    unfold toldRE at h3
    rw [if_pos he, List.append_nil] at h3
    simpa [Function.comp_def] using h3.symm
  unfold rowsOf
  rw [if_pos he, h2]
theorem toldRE_stop {α : Type} {ks : List (List UInt8)} {pre : List ((RowD × Nat) × α)} {x : (RowD × Nat) × α} (h : (pre ++ [x]).map (·.1) <+: toldRE (0, []) [] ks) (h0 : x.1.2 ≠ 0) : rowsOf ks = ([], x.1.2) := by
  have hm : x.1 ∈ toldRE (0, []) [] ks := h.subset (by simp)
  unfold toldRE at hm
  rcases List.mem_append.1 hm with h1 | h1
  · obtain ⟨p, _, hp⟩ := List.mem_map.1 h1
    rw [← hp] at h0; exact absurd rfl h0
  · split at h1
    · simp at h1
    · rename_i hne
      rw [List.mem_singleton.1 h1]
      unfold rowsOf
      rw [if_neg hne]
theorem take_any (m : Nat) (row : RowD) (last : List UInt8) (ao : Option Addr) (cap : Nat) (g : Option Nat) (lo : Option Addr) (lc : Nat) (x : EdgeD) (w : World) (h : MG m row last ao cap g lo lc w) (hx : okE x) (hlen : row.2.length ≤ 1073741824)
    (hleft : x.2.2 ≤ leftOf row x) (hsm : sumA row.2 ≤ 2147483647) :
    Calls Tryz.prog 107 #[.pointer (some ⟨m, 0, none⟩), edgeV x] w fun e w' => e = .returned (.tuple #[]) ∧ ∃ ao' cap' g', MG m (mtakeM row x) last ao' cap' g' lo lc w' ∧ (∀ k, g' = some k → (sameRow row x ∧ g = some k) ∨ w.heap.size ≤ k) ∧ Only (fun k => k = m ∨ (sameRow row x ∧ g = some k)) w w' := by
  by_cases hs : sameRow row x
  · refine (take_same m row last ao cap g lo lc x w h hx hlen hleft hs hsm).mono ?_
    rintro e w' ⟨rfl, ao', cap', g', h1, h2, h3⟩
    exact ⟨rfl, ao', cap', g', h1, fun k hk => (h2 k hk).imp (fun h => ⟨hs, h⟩) id, h3.mono (fun k _ hk => hk.imp id (fun h => ⟨hs, h⟩))⟩
  · refine (take_new m row last ao cap lo lc x w h.toH hx hs).mono ?_
    rintro e w' ⟨rfl, ao', cap', g', h1, h2, h3⟩
    exact ⟨rfl, ao', cap', g', h1, fun k hk => .inr (h2 k hk), h3.mono (fun k _ hk => .inl hk)⟩
end Go.Proofs.YtcklfffeimnfeaaGreat
