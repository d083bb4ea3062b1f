/- The merger: take. -/
import Derived.Test.YtafbjkbdfdeacaaMergeMay
import Derived.Test.YtafbjkbdfdeacaaRoundQuiet
namespace Go.Proofs.Ytafbjkbdfdeacaa
set_option linter.unusedSimpArgs false
set_option linter.unusedVariables false
open Go.RowKit

def addArc (l : List ArcD) (x : EdgeD) : List ArcD := match l.getLast? with
  | some a => if a.1 = x.2.1 then l.dropLast ++ [(a.1, a.2 + x.2.2)] else l ++ [(x.2.1, x.2.2)]
  | none => [(x.2.1, x.2.2)]
def takeM (row : RowD) (x : EdgeD) : RowD := if sameRow row x then (row.1, addArc row.2 x) else (x.1, [(x.2.1, x.2.2)])

theorem alloc_drew (W : World) (o : Obj) : (W.alloc o).drew = W.drew.alloc o := rfl
theorem take_done {m : Nat} {row : RowD} {last : List UInt8} {ao : Option Addr} {cap : Nat} {g : Option Nat} {lo : Option Addr} {lc : Nat} {W : World} {v1 : Value} (c0 : W.cell? ⟨m, 0, none⟩ = some (.int .u32 (row.1 : Nat))) (c1 : W.cell? ⟨m, 1, none⟩ = some v1) (c2 : W.cell? ⟨m, 2, none⟩ = some (.slice lo last.length lc))
    (f0 : W.frozen? ⟨m, 0, none⟩ = false) (f1 : W.frozen? ⟨m, 1, none⟩ = false) (f2 : W.frozen? ⟨m, 2, none⟩ = false) (ho : OwnS arcRep (fun _ => False) W ao cap g 59 row.2) (hr : Rd W lo last.length (byteVals last)) (hm : m < W.heap.size) (hg : g ≠ some m)
    (hl : ∀ b off, lo = some ⟨b, off, none⟩ → 0 < last.length → b ≠ m ∧ g ≠ some b) : MG m row last ao cap g lo lc (W.setCell ⟨m, 1, none⟩ (.slice ao row.2.length cap)) := by
  have hset : Only (fun k => k = m) W (W.setCell ⟨m, 1, none⟩ (.slice ao row.2.length cap)) := (Only.refl (fun k => k = m) W).setCell (p := ⟨m, 1, none⟩) (fun _ => rfl) _
  refine ⟨by simp [cell_set_ite, c0], by simp [cell_set_ite, c1], by simp [cell_set_ite, c2], (World.frozen?_setCell ..).trans f0, (World.frozen?_setCell ..).trans f1, (World.frozen?_setCell ..).trans f2, ho.only hset (fun b hb _ e => ?_), ?_, by simpa using hm, hg, hl⟩
  · rcases hb with h | h
    · exact h
    · exact hg (e ▸ h)
  · rcases Nat.eq_zero_or_pos last.length with h0 | h0
    · exact ⟨hr.1, .inl h0⟩
    · obtain ⟨b, o, e, hb, hc⟩ := hr.pos h0
      refine ⟨hr.1, .inr ⟨b, o, e, by simpa using hb, fun j hj => ?_⟩⟩
      have hne := (hl b o e h0).1
      exact (hset.cell hb hne (o + j)).trans (hc j hj)
set_option maxRecDepth 100000 in
set_option maxHeartbeats 3200000 in
theorem take_new (m : Nat) (row : RowD) (last : List UInt8) (ao : Option Addr) (cap : Nat) (lo : Option Addr) (lc : Nat) (x : EdgeD) (w : World) (h : MH m row last ao cap lo lc w) (hx : okE x) (hns : ¬ sameRow row x) :
    Calls Try.prog 47 #[.pointer (some ⟨m, 0, none⟩), edgeV x] w fun e w' => e = .returned (.tuple #[]) ∧ ∃ ao' cap' g', MG m (takeM row x) last ao' cap' g' lo lc w' ∧ (∀ k, g' = some k → w.heap.size ≤ k) ∧ Only (fun k => k = m) w w' := by
  have hE := arcElem
  have hFull := fun (W : World) (hB : Below w.heap.size w W) => full_any m row last ao cap lo lc x W (h.ext hB)
  have hfb : (fullB row x || decide (row.2.length = 0)) = true := by
    unfold fullB
    unfold sameRow at hns
    by_cases h1 : 0 < row.2.length
    · have h2 : row.1 ≠ x.1 := fun e => hns ⟨h1, e⟩
      simp [h1, h2]
    · have : row.2.length = 0 := by omega
      simp [this]
  have htk : takeM row x = (x.1, [(x.2.1, x.2.2)]) := if_neg hns
  rw [htk]
  obtain ⟨x0, x1, x2⟩ := x
  obtain ⟨fr, arcs⟩ := row
  simp only [edgeV] at hFull ⊢
  simp only at hfb
  generalize fullB (fr, arcs) (x0, x1, x2) = fb at hFull hfb
  have Hm := Lib.hid h
  have HFull := Lib.hid hFull
  have hmlt := h.lt
  have mc0 := h.c0
  have mc1 := h.c1
  have mf0 := h.f0
  have mf1 := h.f1
  have mc2 := h.c2
  have mf2 := h.f2
  have Hx := Lib.hid hx
  simp only at mc0 mc1
  generalize hn : arcs.length = n at mc1 hfb
  have hmw : ¬ m = w.heap.size := by omega
  have hmw2 : ¬ w.heap.size = m := by omega
  clear hFull h htk hns hn
  cases fb
  · skip
    have hn0 : n = 0 := by simpa using hfb
    have hd : ((n : Int) == 0) = true := by simp [hn0]
    have hd' : decide (n = 0) = true := by simp [hn0]
    clear hfb hn0
    go_enter Try.func47, Try.ntmps47
    go_wp2_with (go_at_call 46; refine (HFull.out _ (ext_alloc w _)).mono ?_; rintro e w2 ⟨rfl, hB2⟩; have e0 := ((bcell hB2).1 w.heap.size 0 (by simp)).trans (show _ = some (Value.int .u32 (x0 : Nat)) by simp [go_sem]); have e1 := ((bcell hB2).1 w.heap.size 1 (by simp)).trans (show _ = some (Value.int .u32 (x1 : Nat)) by simp [go_sem]); have e2 := ((bcell hB2).1 w.heap.size 2 (by simp)).trans (show _ = some (Value.int .u32 (x2 : Nat)) by simp [go_sem]); have mc0 := ((bcell ((ext_alloc w _).trans (hB2.mono (by simp)))).1 m 0 hmlt).trans mc0; have mc1 := ((bcell ((ext_alloc w _).trans (hB2.mono (by simp)))).1 m 1 hmlt).trans mc1; have mf0 := ((bcell ((ext_alloc w _).trans (hB2.mono (by simp)))).2 m 0 hmlt).trans mf0; have mf1 := ((bcell ((ext_alloc w _).trans (hB2.mono (by simp)))).2 m 1 hmlt).trans mf1; have mc2 := ((bcell ((ext_alloc w _).trans (hB2.mono (by simp)))).1 m 2 hmlt).trans mc2; have mf2 := ((bcell ((ext_alloc w _).trans (hB2.mono (by simp)))).2 m 2 hmlt).trans mf2; have hz2 := hB2.size; simp at hz2; have HB2 := Lib.hid hB2; clear hB2)
    go_quiet (fail)
    go_wp2_with fail
    obtain ⟨wq, hwq⟩ : ∃ x, ((w2.setCell ⟨m, 0, none⟩ (.int .u32 (x0 : Nat))).setCell ⟨m, 1, none⟩ (.slice none 0 0)).drewN nq = x := ⟨_, rfl⟩
    have hwB : Only (fun k => k = m) w wq := by
      rw [← hwq]
      exact (((Only.of_below (fp := fun k => k = m) ((ext_alloc w _).trans (HB2.out.mono (by simp)))).setCell (p := ⟨m, 0, none⟩) (fun _ => rfl) _).setCell (p := ⟨m, 1, none⟩) (fun _ => rfl) _).drewN nq
    have mw0 : wq.cell? ⟨m, 0, none⟩ = some (.int .u32 (x0 : Nat)) := by rw [← hwq]; simp [go_sem, cell_set_ite, mc0]
    have mw1 : wq.cell? ⟨m, 1, none⟩ = some (.slice none 0 0) := by rw [← hwq]; simp [go_sem, cell_set_ite, mc1]
    have mf1 : wq.frozen? ⟨m, 1, none⟩ = false := by rw [← hwq]; simp [go_sem, mf1]
    have e1 : wq.cell? ⟨w.heap.size, 1, none⟩ = some (.int .u32 (x1 : Nat)) := by rw [← hwq]; simp [go_sem, cell_set_ite, e1, hmw, hmw2]
    have e2 : wq.cell? ⟨w.heap.size, 2, none⟩ = some (.int .u32 (x2 : Nat)) := by rw [← hwq]; simp [go_sem, cell_set_ite, e2, hmw, hmw2]
    have hzq : w.heap.size + 1 ≤ wq.heap.size := by rw [← hwq]; simpa using hz2
    have HO := Lib.hid (Own.nil wq 59 2)
    have HNe : Hid ((none : Option Nat) ≠ some m) := Lib.hid (by simp)
    have mw2 : wq.cell? ⟨m, 2, none⟩ = some (.slice lo last.length lc) := by rw [← hwq]; simp [go_sem, cell_set_ite, mc2]
    have mf0q : wq.frozen? ⟨m, 0, none⟩ = false := by rw [← hwq]; simp [go_sem, mf0]
    have mf2q : wq.frozen? ⟨m, 2, none⟩ = false := by rw [← hwq]; simp [go_sem, mf2]
    have Hmw2 := Lib.hid mw2
    have Hmf0 := Lib.hid mf0q
    have Hmf2 := Lib.hid mf2q
    have HwB := Lib.hid hwB
    have Hmw0 := Lib.hid mw0
    have hmq : ¬ m = wq.heap.size := by omega
    have hmq2 : ¬ wq.heap.size = m := by omega
    have hsq : ¬ w.heap.size = wq.heap.size := by omega
    have hsq2 : ¬ wq.heap.size = w.heap.size := by omega
    rw [hwq]
    clear hwq hwB mc0 mc1 mc2 mf0 mf2 e0 mw0 mw2 mf0q mf2q
    refine (wpIn_wide (n := 0)).1 ?_
    refine wpIn_region_any (by kernel_rfl) ?_
    change wpAnyIn _ _ _ _ _ _ _ _ _ (World.drew _)
    refine wpAnyIn_take (i := 0) (v := ?_) rfl rfl (by kernel_rfl) (by kernel_rfl) (by kernel_rfl) (fun _ _ _ h => h) ⟨Or.inl ⟨by rfl, ?_⟩, fun _ => rfl⟩ ?_
    rotate_left
    · (intro w; go_simp; try (with_reducible rfl))
    refine wpAnyIn_take (i := 1) (v := ?_) rfl rfl (by kernel_rfl) (by kernel_rfl) (by kernel_rfl) (fun _ _ _ h => h) ⟨Or.inl ⟨by rfl, ?_⟩, fun _ => rfl⟩ ?_
    rotate_left
    · (intro w; go_simp; try (with_reducible rfl))
    refine wpAnyIn_take (i := 2) (v := ?_) rfl rfl (by kernel_rfl) (by kernel_rfl) (by kernel_rfl) (fun _ _ _ h => h) ⟨Or.inl ⟨by rfl, ?_⟩, fun _ => rfl⟩ ?_
    rotate_left
    · (intro w; go_simp; try (with_reducible rfl))
    refine wpAnyIn_take (i := 3) (v := ?_) rfl rfl (by kernel_rfl) (by kernel_rfl) (by kernel_rfl) (fun _ _ _ h => h) ⟨Or.inl ⟨by rfl, ?_⟩, fun _ => rfl⟩ ?_
    rotate_left
    · (intro w; go_simp; try (with_reducible rfl))
    refine wpAnyIn_take (i := 4) (v := ?_) rfl rfl (by kernel_rfl) (by kernel_rfl) (by kernel_rfl) (fun _ _ _ h => h) ⟨Or.inl ⟨by rfl, ?_⟩, fun _ => rfl⟩ ?_
    rotate_left
    · (intro w; go_simp; try (with_reducible rfl))
    refine wpAnyIn_take (i := 6) (v := ?_) rfl rfl (by kernel_rfl) (by kernel_rfl) (by kernel_rfl) (fun _ _ _ h => h) ⟨Or.inl ⟨by rfl, ?_⟩, fun _ => rfl⟩ ?_
    rotate_left
    · (intro w; go_simp; try (with_reducible rfl))
    refine wpAnyIn_take (i := 8) (v := ?_) rfl rfl (by kernel_rfl) (by kernel_rfl) (by kernel_rfl) (fun _ _ _ h => h) ⟨Or.inl ⟨by rfl, ?_⟩, fun _ => rfl⟩ ?_
    rotate_left
    · (intro w; go_simp; try (with_reducible rfl))
    refine wpAnyIn_ready (rs := [5, 7, 9]) (by kernel_rfl) (by simp) ?_
    refine AllReadyIn.cons rfl (fun K hK => ?_) ?_
    · go_simp
      refine hK _ _ ?_
      clear hK K
      refine wpAnyIn_ready (rs := [7, 9]) (by kernel_rfl) (by simp) ?_
      refine AllReadyIn.cons rfl (fun K hK => ?_) ?_
      · go_simp
        refine hK _ _ ?_
        clear hK K
        refine wpAnyIn_ready (rs := [9]) (by kernel_rfl) (by simp) ?_
        refine AllReadyIn.cons rfl (fun K hK => ?_) AllReadyIn.nil
        go_simp
        refine hK _ _ ?_
        clear hK K
        refine wpAnyIn_take (i := 10) (v := ?_) rfl rfl (by kernel_rfl) (by kernel_rfl) (by kernel_rfl) (fun _ _ _ h => h) ⟨Or.inl ⟨by rfl, ?_⟩, fun _ => rfl⟩ ?_
        rotate_left
        · (intro w; go_simp; try (with_reducible rfl))
        refine wpAnyIn_ready (rs := [11]) (by kernel_rfl) (by simp) ?_
        refine AllReadyIn.cons rfl (fun K hK => ?_) AllReadyIn.nil
        go_simp
        refine hK _ _ ?_
        clear hK K
        refine wpAnyIn_ready (rs := [12]) (by kernel_rfl) (by simp) ?_
        refine AllReadyIn.cons rfl (fun K hK => ?_) AllReadyIn.nil
        try rw [alloc_drew]
        refine step_appIn (fun _ => trivial) rfl (.tmp 66) (.tmp 72) 49 49 rfl hE ((HO.out.ext (ext_drew _)).alloc _) rfl rfl (srcManyE Try.underlying49 _ _ _ _ 2 _ (by simp) rfl (by simp [Value.oneCell'])) (by first | (simp [maxLen]; done) | (simp [maxLen]; omega)) (by omega) ?_
        intro ao5 cap5 g5 W5 ho5 hg5 hon5
        refine hK _ _ ?_
        clear hK K
        have u1 := hon5.cell (b := m) (by simp; omega) HNe.out 1
        have u2 := hon5.frozen (b := m) (by simp; omega) HNe.out 1
        simp [go_sem, ↓IntWalk.iteOmega, mw1, mf1] at u1 u2
        refine wpAnyIn_take (i := 13) (v := ?_) rfl rfl (by kernel_rfl) (by kernel_rfl) (by kernel_rfl) (fun _ _ _ h => h) ⟨Or.inl ⟨by rfl, ?_⟩, fun _ => rfl⟩ ?_
        rotate_left
        · (intro w; go_simp; try (with_reducible rfl))
        refine wpAnyIn_take (i := 14) (v := ?_) rfl rfl (by kernel_rfl) (by kernel_rfl) (by kernel_rfl) (fun _ _ _ h => h) ⟨Or.inl ⟨by rfl, ?_⟩, fun _ => rfl⟩ ?_
        rotate_left
        · (intro w; go_simp; try (with_reducible rfl))
        refine wpAnyIn_take (i := 15) (v := ?_) rfl rfl (by kernel_rfl) (by kernel_rfl) (by kernel_rfl) (fun _ _ _ h => h) ⟨Or.inl ⟨by rfl, ?_⟩, fun _ => rfl⟩ ?_
        rotate_left
        · (intro w; go_simp; try (with_reducible rfl))
        refine wpAnyIn_ready (rs := [16]) (by kernel_rfl) (by simp) ?_
        refine AllReadyIn.cons rfl (fun K hK => ?_) AllReadyIn.nil
        go_simp
        refine hK _ _ ?_
        clear hK K
        refine wpAnyIn_done (by kernel_rfl) ?_ _
        go_end0
        have y0 := hon5.cell (b := m) (by simp; omega) HNe.out 0
        have y2 := hon5.cell (b := m) (by simp; omega) HNe.out 2
        have z0 := hon5.frozen (b := m) (by simp; omega) HNe.out 0
        have z2 := hon5.frozen (b := m) (by simp; omega) HNe.out 2
        simp [go_sem, ↓IntWalk.iteOmega, Hmw0.out, Hmw2.out, Hmf0.out, Hmf2.out] at y0 y2 z0 z2
        have hOn : Only (fun k => k = m) w W5 := (HwB.out.ext ((ext_drew wq).alloc (by simp) _)).trans hon5 (fun i _ e => by cases e)
        have hs5 := hOn.size
        have hg5' : ∀ k, g5 = some k → wq.heap.size ≤ k := fun k h => by
          rcases hg5 with e | e <;> rw [e] at h
          · cases h
          · cases h; simp
        have hMG := Hm.out
        have hS : OwnS arcRep (fun _ => False) W5 ao5 cap5 g5 59 [(x1, x2)] := ⟨[arcCs (x1, x2)], ho5, .cons (arcRep_ok ⟨Hx.out.2.1, Hx.out.2.2⟩) .nil⟩
        refine ⟨rfl, ao5, cap5, g5, take_done (row := (x0, [(x1, x2)])) y0 u1 y2 z0 u2 z2 hS ?_ (by omega) (fun e => by have := hg5' m e; omega) ?_, fun k h => by have := hg5' k h; omega, hOn.setCell (fun _ => rfl) _⟩
        · exact hMG.rd.only hOn (fun h0 k off e => hMG.lne k off e h0)
        · intro b o e h0
          refine ⟨hMG.lne b o e h0, fun e2 => ?_⟩
          have := hg5' b e2
          obtain ⟨b', o', e3, hb', _⟩ := hMG.rd.pos h0
          rw [e3] at e
          cases e
          omega
      · refine AllReadyIn.cons rfl (fun K hK => ?_) AllReadyIn.nil
        go_simp
        refine hK _ _ ?_
        clear hK K
        refine wpAnyIn_ready (rs := [7]) (by kernel_rfl) (by simp) ?_
        refine AllReadyIn.cons rfl (fun K hK => ?_) AllReadyIn.nil
        go_simp
        refine hK _ _ ?_
        clear hK K
        refine wpAnyIn_take (i := 10) (v := ?_) rfl rfl (by kernel_rfl) (by kernel_rfl) (by kernel_rfl) (fun _ _ _ h => h) ⟨Or.inl ⟨by rfl, ?_⟩, fun _ => rfl⟩ ?_
        rotate_left
        · (intro w; go_simp; try (with_reducible rfl))
        refine wpAnyIn_ready (rs := [11]) (by kernel_rfl) (by simp) ?_
        refine AllReadyIn.cons rfl (fun K hK => ?_) AllReadyIn.nil
        go_simp
        refine hK _ _ ?_
        clear hK K
        refine wpAnyIn_ready (rs := [12]) (by kernel_rfl) (by simp) ?_
        refine AllReadyIn.cons rfl (fun K hK => ?_) AllReadyIn.nil
        try rw [alloc_drew]
        refine step_appIn (fun _ => trivial) rfl (.tmp 66) (.tmp 72) 49 49 rfl hE ((HO.out.ext (ext_drew _)).alloc _) rfl rfl (srcManyE Try.underlying49 _ _ _ _ 2 _ (by simp) rfl (by simp [Value.oneCell'])) (by first | (simp [maxLen]; done) | (simp [maxLen]; omega)) (by omega) ?_
        intro ao5 cap5 g5 W5 ho5 hg5 hon5
        refine hK _ _ ?_
        clear hK K
        have u1 := hon5.cell (b := m) (by simp; omega) HNe.out 1
        have u2 := hon5.frozen (b := m) (by simp; omega) HNe.out 1
        simp [go_sem, ↓IntWalk.iteOmega, mw1, mf1] at u1 u2
        refine wpAnyIn_take (i := 13) (v := ?_) rfl rfl (by kernel_rfl) (by kernel_rfl) (by kernel_rfl) (fun _ _ _ h => h) ⟨Or.inl ⟨by rfl, ?_⟩, fun _ => rfl⟩ ?_
        rotate_left
        · (intro w; go_simp; try (with_reducible rfl))
        refine wpAnyIn_take (i := 14) (v := ?_) rfl rfl (by kernel_rfl) (by kernel_rfl) (by kernel_rfl) (fun _ _ _ h => h) ⟨Or.inl ⟨by rfl, ?_⟩, fun _ => rfl⟩ ?_
        rotate_left
        · (intro w; go_simp; try (with_reducible rfl))
        refine wpAnyIn_take (i := 15) (v := ?_) rfl rfl (by kernel_rfl) (by kernel_rfl) (by kernel_rfl) (fun _ _ _ h => h) ⟨Or.inl ⟨by rfl, ?_⟩, fun _ => rfl⟩ ?_
        rotate_left
        · (intro w; go_simp; try (with_reducible rfl))
        refine wpAnyIn_ready (rs := [16]) (by kernel_rfl) (by simp) ?_
        refine AllReadyIn.cons rfl (fun K hK => ?_) AllReadyIn.nil
        go_simp
        refine hK _ _ ?_
        clear hK K
        refine wpAnyIn_done (by kernel_rfl) ?_ _
        go_end0
        have y0 := hon5.cell (b := m) (by simp; omega) HNe.out 0
        have y2 := hon5.cell (b := m) (by simp; omega) HNe.out 2
        have z0 := hon5.frozen (b := m) (by simp; omega) HNe.out 0
        have z2 := hon5.frozen (b := m) (by simp; omega) HNe.out 2
        simp [go_sem, ↓IntWalk.iteOmega, Hmw0.out, Hmw2.out, Hmf0.out, Hmf2.out] at y0 y2 z0 z2
        have hOn : Only (fun k => k = m) w W5 := (HwB.out.ext ((ext_drew wq).alloc (by simp) _)).trans hon5 (fun i _ e => by cases e)
        have hs5 := hOn.size
        have hg5' : ∀ k, g5 = some k → wq.heap.size ≤ k := fun k h => by
          rcases hg5 with e | e <;> rw [e] at h
          · cases h
          · cases h; simp
        have hMG := Hm.out
        have hS : OwnS arcRep (fun _ => False) W5 ao5 cap5 g5 59 [(x1, x2)] := ⟨[arcCs (x1, x2)], ho5, .cons (arcRep_ok ⟨Hx.out.2.1, Hx.out.2.2⟩) .nil⟩
        refine ⟨rfl, ao5, cap5, g5, take_done (row := (x0, [(x1, x2)])) y0 u1 y2 z0 u2 z2 hS ?_ (by omega) (fun e => by have := hg5' m e; omega) ?_, fun k h => by have := hg5' k h; omega, hOn.setCell (fun _ => rfl) _⟩
        · exact hMG.rd.only hOn (fun h0 k off e => hMG.lne k off e h0)
        · intro b o e h0
          refine ⟨hMG.lne b o e h0, fun e2 => ?_⟩
          have := hg5' b e2
          obtain ⟨b', o', e3, hb', _⟩ := hMG.rd.pos h0
          rw [e3] at e
          cases e
          omega
    · refine AllReadyIn.cons rfl (fun K hK => ?_) ?_
      · go_simp
        refine hK _ _ ?_
        clear hK K
        refine wpAnyIn_ready (rs := [5, 9]) (by kernel_rfl) (by simp) ?_
        refine AllReadyIn.cons rfl (fun K hK => ?_) ?_
        · go_simp
          refine hK _ _ ?_
          clear hK K
          refine wpAnyIn_ready (rs := [9]) (by kernel_rfl) (by simp) ?_
          refine AllReadyIn.cons rfl (fun K hK => ?_) AllReadyIn.nil
          go_simp
          refine hK _ _ ?_
          clear hK K
          refine wpAnyIn_take (i := 10) (v := ?_) rfl rfl (by kernel_rfl) (by kernel_rfl) (by kernel_rfl) (fun _ _ _ h => h) ⟨Or.inl ⟨by rfl, ?_⟩, fun _ => rfl⟩ ?_
          rotate_left
          · (intro w; go_simp; try (with_reducible rfl))
          refine wpAnyIn_ready (rs := [11]) (by kernel_rfl) (by simp) ?_
          refine AllReadyIn.cons rfl (fun K hK => ?_) AllReadyIn.nil
          go_simp
          refine hK _ _ ?_
          clear hK K
          refine wpAnyIn_ready (rs := [12]) (by kernel_rfl) (by simp) ?_
          refine AllReadyIn.cons rfl (fun K hK => ?_) AllReadyIn.nil
          try rw [alloc_drew]
          refine step_appIn (fun _ => trivial) rfl (.tmp 66) (.tmp 72) 49 49 rfl hE ((HO.out.ext (ext_drew _)).alloc _) rfl rfl (srcManyE Try.underlying49 _ _ _ _ 2 _ (by simp) rfl (by simp [Value.oneCell'])) (by first | (simp [maxLen]; done) | (simp [maxLen]; omega)) (by omega) ?_
          intro ao5 cap5 g5 W5 ho5 hg5 hon5
          refine hK _ _ ?_
          clear hK K
          have u1 := hon5.cell (b := m) (by simp; omega) HNe.out 1
          have u2 := hon5.frozen (b := m) (by simp; omega) HNe.out 1
          simp [go_sem, ↓IntWalk.iteOmega, mw1, mf1] at u1 u2
          refine wpAnyIn_take (i := 13) (v := ?_) rfl rfl (by kernel_rfl) (by kernel_rfl) (by kernel_rfl) (fun _ _ _ h => h) ⟨Or.inl ⟨by rfl, ?_⟩, fun _ => rfl⟩ ?_
          rotate_left
          · (intro w; go_simp; try (with_reducible rfl))
          refine wpAnyIn_take (i := 14) (v := ?_) rfl rfl (by kernel_rfl) (by kernel_rfl) (by kernel_rfl) (fun _ _ _ h => h) ⟨Or.inl ⟨by rfl, ?_⟩, fun _ => rfl⟩ ?_
          rotate_left
          · (intro w; go_simp; try (with_reducible rfl))
          refine wpAnyIn_take (i := 15) (v := ?_) rfl rfl (by kernel_rfl) (by kernel_rfl) (by kernel_rfl) (fun _ _ _ h => h) ⟨Or.inl ⟨by rfl, ?_⟩, fun _ => rfl⟩ ?_
          rotate_left
          · (intro w; go_simp; try (with_reducible rfl))
          refine wpAnyIn_ready (rs := [16]) (by kernel_rfl) (by simp) ?_
          refine AllReadyIn.cons rfl (fun K hK => ?_) AllReadyIn.nil
          go_simp
          refine hK _ _ ?_
          clear hK K
          refine wpAnyIn_done (by kernel_rfl) ?_ _
          go_end0
          have y0 := hon5.cell (b := m) (by simp; omega) HNe.out 0
          have y2 := hon5.cell (b := m) (by simp; omega) HNe.out 2
          have z0 := hon5.frozen (b := m) (by simp; omega) HNe.out 0
          have z2 := hon5.frozen (b := m) (by simp; omega) HNe.out 2
          simp [go_sem, ↓IntWalk.iteOmega, Hmw0.out, Hmw2.out, Hmf0.out, Hmf2.out] at y0 y2 z0 z2
          have hOn : Only (fun k => k = m) w W5 := (HwB.out.ext ((ext_drew wq).alloc (by simp) _)).trans hon5 (fun i _ e => by cases e)
          have hs5 := hOn.size
          have hg5' : ∀ k, g5 = some k → wq.heap.size ≤ k := fun k h => by
            rcases hg5 with e | e <;> rw [e] at h
            · cases h
            · cases h; simp
          have hMG := Hm.out
          have hS : OwnS arcRep (fun _ => False) W5 ao5 cap5 g5 59 [(x1, x2)] := ⟨[arcCs (x1, x2)], ho5, .cons (arcRep_ok ⟨Hx.out.2.1, Hx.out.2.2⟩) .nil⟩
          refine ⟨rfl, ao5, cap5, g5, take_done (row := (x0, [(x1, x2)])) y0 u1 y2 z0 u2 z2 hS ?_ (by omega) (fun e => by have := hg5' m e; omega) ?_, fun k h => by have := hg5' k h; omega, hOn.setCell (fun _ => rfl) _⟩
          · exact hMG.rd.only hOn (fun h0 k off e => hMG.lne k off e h0)
          · intro b o e h0
            refine ⟨hMG.lne b o e h0, fun e2 => ?_⟩
            have := hg5' b e2
            obtain ⟨b', o', e3, hb', _⟩ := hMG.rd.pos h0
            rw [e3] at e
            cases e
            omega
        · refine AllReadyIn.cons rfl (fun K hK => ?_) AllReadyIn.nil
          go_simp
          refine hK _ _ ?_
          clear hK K
          refine wpAnyIn_take (i := 10) (v := ?_) rfl rfl (by kernel_rfl) (by kernel_rfl) (by kernel_rfl) (fun _ _ _ h => h) ⟨Or.inl ⟨by rfl, ?_⟩, fun _ => rfl⟩ ?_
          rotate_left
          · (intro w; go_simp; try (with_reducible rfl))
          refine wpAnyIn_ready (rs := [5, 11]) (by kernel_rfl) (by simp) ?_
          refine AllReadyIn.cons rfl (fun K hK => ?_) ?_
          · go_simp
            refine hK _ _ ?_
            clear hK K
            refine wpAnyIn_ready (rs := [11]) (by kernel_rfl) (by simp) ?_
            refine AllReadyIn.cons rfl (fun K hK => ?_) AllReadyIn.nil
            go_simp
            refine hK _ _ ?_
            clear hK K
            refine wpAnyIn_ready (rs := [12]) (by kernel_rfl) (by simp) ?_
            refine AllReadyIn.cons rfl (fun K hK => ?_) AllReadyIn.nil
            try rw [alloc_drew]
            refine step_appIn (fun _ => trivial) rfl (.tmp 66) (.tmp 72) 49 49 rfl hE ((HO.out.ext (ext_drew _)).alloc _) rfl rfl (srcManyE Try.underlying49 _ _ _ _ 2 _ (by simp) rfl (by simp [Value.oneCell'])) (by first | (simp [maxLen]; done) | (simp [maxLen]; omega)) (by omega) ?_
            intro ao5 cap5 g5 W5 ho5 hg5 hon5
            refine hK _ _ ?_
            clear hK K
            have u1 := hon5.cell (b := m) (by simp; omega) HNe.out 1
            have u2 := hon5.frozen (b := m) (by simp; omega) HNe.out 1
            simp [go_sem, ↓IntWalk.iteOmega, mw1, mf1] at u1 u2
            refine wpAnyIn_take (i := 13) (v := ?_) rfl rfl (by kernel_rfl) (by kernel_rfl) (by kernel_rfl) (fun _ _ _ h => h) ⟨Or.inl ⟨by rfl, ?_⟩, fun _ => rfl⟩ ?_
            rotate_left
            · (intro w; go_simp; try (with_reducible rfl))
            refine wpAnyIn_take (i := 14) (v := ?_) rfl rfl (by kernel_rfl) (by kernel_rfl) (by kernel_rfl) (fun _ _ _ h => h) ⟨Or.inl ⟨by rfl, ?_⟩, fun _ => rfl⟩ ?_
            rotate_left
            · (intro w; go_simp; try (with_reducible rfl))
            refine wpAnyIn_take (i := 15) (v := ?_) rfl rfl (by kernel_rfl) (by kernel_rfl) (by kernel_rfl) (fun _ _ _ h => h) ⟨Or.inl ⟨by rfl, ?_⟩, fun _ => rfl⟩ ?_
            rotate_left
            · (intro w; go_simp; try (with_reducible rfl))
            refine wpAnyIn_ready (rs := [16]) (by kernel_rfl) (by simp) ?_
            refine AllReadyIn.cons rfl (fun K hK => ?_) AllReadyIn.nil
            go_simp
            refine hK _ _ ?_
            clear hK K
            refine wpAnyIn_done (by kernel_rfl) ?_ _
            go_end0
            have y0 := hon5.cell (b := m) (by simp; omega) HNe.out 0
            have y2 := hon5.cell (b := m) (by simp; omega) HNe.out 2
            have z0 := hon5.frozen (b := m) (by simp; omega) HNe.out 0
            have z2 := hon5.frozen (b := m) (by simp; omega) HNe.out 2
            simp [go_sem, ↓IntWalk.iteOmega, Hmw0.out, Hmw2.out, Hmf0.out, Hmf2.out] at y0 y2 z0 z2
            have hOn : Only (fun k => k = m) w W5 := (HwB.out.ext ((ext_drew wq).alloc (by simp) _)).trans hon5 (fun i _ e => by cases e)
            have hs5 := hOn.size
            have hg5' : ∀ k, g5 = some k → wq.heap.size ≤ k := fun k h => by
              rcases hg5 with e | e <;> rw [e] at h
              · cases h
              · cases h; simp
            have hMG := Hm.out
            have hS : OwnS arcRep (fun _ => False) W5 ao5 cap5 g5 59 [(x1, x2)] := ⟨[arcCs (x1, x2)], ho5, .cons (arcRep_ok ⟨Hx.out.2.1, Hx.out.2.2⟩) .nil⟩
            refine ⟨rfl, ao5, cap5, g5, take_done (row := (x0, [(x1, x2)])) y0 u1 y2 z0 u2 z2 hS ?_ (by omega) (fun e => by have := hg5' m e; omega) ?_, fun k h => by have := hg5' k h; omega, hOn.setCell (fun _ => rfl) _⟩
            · exact hMG.rd.only hOn (fun h0 k off e => hMG.lne k off e h0)
            · intro b o e h0
              refine ⟨hMG.lne b o e h0, fun e2 => ?_⟩
              have := hg5' b e2
              obtain ⟨b', o', e3, hb', _⟩ := hMG.rd.pos h0
              rw [e3] at e
              cases e
              omega
          · refine AllReadyIn.cons rfl (fun K hK => ?_) AllReadyIn.nil
            go_simp
            refine hK _ _ ?_
            clear hK K
            refine wpAnyIn_ready (rs := [5]) (by kernel_rfl) (by simp) ?_
            refine AllReadyIn.cons rfl (fun K hK => ?_) AllReadyIn.nil
            go_simp
            refine hK _ _ ?_
            clear hK K
            refine wpAnyIn_ready (rs := [12]) (by kernel_rfl) (by simp) ?_
            refine AllReadyIn.cons rfl (fun K hK => ?_) AllReadyIn.nil
            try rw [alloc_drew]
            refine step_appIn (fun _ => trivial) rfl (.tmp 66) (.tmp 72) 49 49 rfl hE ((HO.out.ext (ext_drew _)).alloc _) rfl rfl (srcManyE Try.underlying49 _ _ _ _ 2 _ (by simp) rfl (by simp [Value.oneCell'])) (by first | (simp [maxLen]; done) | (simp [maxLen]; omega)) (by omega) ?_
            intro ao5 cap5 g5 W5 ho5 hg5 hon5
            refine hK _ _ ?_
            clear hK K
            have u1 := hon5.cell (b := m) (by simp; omega) HNe.out 1
            have u2 := hon5.frozen (b := m) (by simp; omega) HNe.out 1
            simp [go_sem, ↓IntWalk.iteOmega, mw1, mf1] at u1 u2
            refine wpAnyIn_take (i := 13) (v := ?_) rfl rfl (by kernel_rfl) (by kernel_rfl) (by kernel_rfl) (fun _ _ _ h => h) ⟨Or.inl ⟨by rfl, ?_⟩, fun _ => rfl⟩ ?_
            rotate_left
            · (intro w; go_simp; try (with_reducible rfl))
            refine wpAnyIn_take (i := 14) (v := ?_) rfl rfl (by kernel_rfl) (by kernel_rfl) (by kernel_rfl) (fun _ _ _ h => h) ⟨Or.inl ⟨by rfl, ?_⟩, fun _ => rfl⟩ ?_
            rotate_left
            · (intro w; go_simp; try (with_reducible rfl))
            refine wpAnyIn_take (i := 15) (v := ?_) rfl rfl (by kernel_rfl) (by kernel_rfl) (by kernel_rfl) (fun _ _ _ h => h) ⟨Or.inl ⟨by rfl, ?_⟩, fun _ => rfl⟩ ?_
            rotate_left
            · (intro w; go_simp; try (with_reducible rfl))
            refine wpAnyIn_ready (rs := [16]) (by kernel_rfl) (by simp) ?_
            refine AllReadyIn.cons rfl (fun K hK => ?_) AllReadyIn.nil
            go_simp
            refine hK _ _ ?_
            clear hK K
            refine wpAnyIn_done (by kernel_rfl) ?_ _
            go_end0
            have y0 := hon5.cell (b := m) (by simp; omega) HNe.out 0
            have y2 := hon5.cell (b := m) (by simp; omega) HNe.out 2
            have z0 := hon5.frozen (b := m) (by simp; omega) HNe.out 0
            have z2 := hon5.frozen (b := m) (by simp; omega) HNe.out 2
            simp [go_sem, ↓IntWalk.iteOmega, Hmw0.out, Hmw2.out, Hmf0.out, Hmf2.out] at y0 y2 z0 z2
            have hOn : Only (fun k => k = m) w W5 := (HwB.out.ext ((ext_drew wq).alloc (by simp) _)).trans hon5 (fun i _ e => by cases e)
            have hs5 := hOn.size
            have hg5' : ∀ k, g5 = some k → wq.heap.size ≤ k := fun k h => by
              rcases hg5 with e | e <;> rw [e] at h
              · cases h
              · cases h; simp
            have hMG := Hm.out
            have hS : OwnS arcRep (fun _ => False) W5 ao5 cap5 g5 59 [(x1, x2)] := ⟨[arcCs (x1, x2)], ho5, .cons (arcRep_ok ⟨Hx.out.2.1, Hx.out.2.2⟩) .nil⟩
            refine ⟨rfl, ao5, cap5, g5, take_done (row := (x0, [(x1, x2)])) y0 u1 y2 z0 u2 z2 hS ?_ (by omega) (fun e => by have := hg5' m e; omega) ?_, fun k h => by have := hg5' k h; omega, hOn.setCell (fun _ => rfl) _⟩
            · exact hMG.rd.only hOn (fun h0 k off e => hMG.lne k off e h0)
            · intro b o e h0
              refine ⟨hMG.lne b o e h0, fun e2 => ?_⟩
              have := hg5' b e2
              obtain ⟨b', o', e3, hb', _⟩ := hMG.rd.pos h0
              rw [e3] at e
              cases e
              omega
      · refine AllReadyIn.cons rfl (fun K hK => ?_) AllReadyIn.nil
        go_simp
        refine hK _ _ ?_
        clear hK K
        refine wpAnyIn_ready (rs := [5, 7]) (by kernel_rfl) (by simp) ?_
        refine AllReadyIn.cons rfl (fun K hK => ?_) ?_
        · go_simp
          refine hK _ _ ?_
          clear hK K
          refine wpAnyIn_ready (rs := [7]) (by kernel_rfl) (by simp) ?_
          refine AllReadyIn.cons rfl (fun K hK => ?_) AllReadyIn.nil
          go_simp
          refine hK _ _ ?_
          clear hK K
          refine wpAnyIn_take (i := 10) (v := ?_) rfl rfl (by kernel_rfl) (by kernel_rfl) (by kernel_rfl) (fun _ _ _ h => h) ⟨Or.inl ⟨by rfl, ?_⟩, fun _ => rfl⟩ ?_
          rotate_left
          · (intro w; go_simp; try (with_reducible rfl))
          refine wpAnyIn_ready (rs := [11]) (by kernel_rfl) (by simp) ?_
          refine AllReadyIn.cons rfl (fun K hK => ?_) AllReadyIn.nil
          go_simp
          refine hK _ _ ?_
          clear hK K
          refine wpAnyIn_ready (rs := [12]) (by kernel_rfl) (by simp) ?_
          refine AllReadyIn.cons rfl (fun K hK => ?_) AllReadyIn.nil
          try rw [alloc_drew]
          refine step_appIn (fun _ => trivial) rfl (.tmp 66) (.tmp 72) 49 49 rfl hE ((HO.out.ext (ext_drew _)).alloc _) rfl rfl (srcManyE Try.underlying49 _ _ _ _ 2 _ (by simp) rfl (by simp [Value.oneCell'])) (by first | (simp [maxLen]; done) | (simp [maxLen]; omega)) (by omega) ?_
          intro ao5 cap5 g5 W5 ho5 hg5 hon5
          refine hK _ _ ?_
          clear hK K
          have u1 := hon5.cell (b := m) (by simp; omega) HNe.out 1
          have u2 := hon5.frozen (b := m) (by simp; omega) HNe.out 1
          simp [go_sem, ↓IntWalk.iteOmega, mw1, mf1] at u1 u2
          refine wpAnyIn_take (i := 13) (v := ?_) rfl rfl (by kernel_rfl) (by kernel_rfl) (by kernel_rfl) (fun _ _ _ h => h) ⟨Or.inl ⟨by rfl, ?_⟩, fun _ => rfl⟩ ?_
          rotate_left
          · (intro w; go_simp; try (with_reducible rfl))
          refine wpAnyIn_take (i := 14) (v := ?_) rfl rfl (by kernel_rfl) (by kernel_rfl) (by kernel_rfl) (fun _ _ _ h => h) ⟨Or.inl ⟨by rfl, ?_⟩, fun _ => rfl⟩ ?_
          rotate_left
          · (intro w; go_simp; try (with_reducible rfl))
          refine wpAnyIn_take (i := 15) (v := ?_) rfl rfl (by kernel_rfl) (by kernel_rfl) (by kernel_rfl) (fun _ _ _ h => h) ⟨Or.inl ⟨by rfl, ?_⟩, fun _ => rfl⟩ ?_
          rotate_left
          · (intro w; go_simp; try (with_reducible rfl))
          refine wpAnyIn_ready (rs := [16]) (by kernel_rfl) (by simp) ?_
          refine AllReadyIn.cons rfl (fun K hK => ?_) AllReadyIn.nil
          go_simp
          refine hK _ _ ?_
          clear hK K
          refine wpAnyIn_done (by kernel_rfl) ?_ _
          go_end0
          have y0 := hon5.cell (b := m) (by simp; omega) HNe.out 0
          have y2 := hon5.cell (b := m) (by simp; omega) HNe.out 2
          have z0 := hon5.frozen (b := m) (by simp; omega) HNe.out 0
          have z2 := hon5.frozen (b := m) (by simp; omega) HNe.out 2
          simp [go_sem, ↓IntWalk.iteOmega, Hmw0.out, Hmw2.out, Hmf0.out, Hmf2.out] at y0 y2 z0 z2
          have hOn : Only (fun k => k = m) w W5 := (HwB.out.ext ((ext_drew wq).alloc (by simp) _)).trans hon5 (fun i _ e => by cases e)
          have hs5 := hOn.size
          have hg5' : ∀ k, g5 = some k → wq.heap.size ≤ k := fun k h => by
            rcases hg5 with e | e <;> rw [e] at h
            · cases h
            · cases h; simp
          have hMG := Hm.out
          have hS : OwnS arcRep (fun _ => False) W5 ao5 cap5 g5 59 [(x1, x2)] := ⟨[arcCs (x1, x2)], ho5, .cons (arcRep_ok ⟨Hx.out.2.1, Hx.out.2.2⟩) .nil⟩
          refine ⟨rfl, ao5, cap5, g5, take_done (row := (x0, [(x1, x2)])) y0 u1 y2 z0 u2 z2 hS ?_ (by omega) (fun e => by have := hg5' m e; omega) ?_, fun k h => by have := hg5' k h; omega, hOn.setCell (fun _ => rfl) _⟩
          · exact hMG.rd.only hOn (fun h0 k off e => hMG.lne k off e h0)
          · intro b o e h0
            refine ⟨hMG.lne b o e h0, fun e2 => ?_⟩
            have := hg5' b e2
            obtain ⟨b', o', e3, hb', _⟩ := hMG.rd.pos h0
            rw [e3] at e
            cases e
            omega
        · refine AllReadyIn.cons rfl (fun K hK => ?_) AllReadyIn.nil
          go_simp
          refine hK _ _ ?_
          clear hK K
          refine wpAnyIn_take (i := 10) (v := ?_) rfl rfl (by kernel_rfl) (by kernel_rfl) (by kernel_rfl) (fun _ _ _ h => h) ⟨Or.inl ⟨by rfl, ?_⟩, fun _ => rfl⟩ ?_
          rotate_left
          · (intro w; go_simp; try (with_reducible rfl))
          refine wpAnyIn_ready (rs := [5, 11]) (by kernel_rfl) (by simp) ?_
          refine AllReadyIn.cons rfl (fun K hK => ?_) ?_
          · go_simp
            refine hK _ _ ?_
            clear hK K
            refine wpAnyIn_ready (rs := [11]) (by kernel_rfl) (by simp) ?_
            refine AllReadyIn.cons rfl (fun K hK => ?_) AllReadyIn.nil
            go_simp
            refine hK _ _ ?_
            clear hK K
            refine wpAnyIn_ready (rs := [12]) (by kernel_rfl) (by simp) ?_
            refine AllReadyIn.cons rfl (fun K hK => ?_) AllReadyIn.nil
            try rw [alloc_drew]
            refine step_appIn (fun _ => trivial) rfl (.tmp 66) (.tmp 72) 49 49 rfl hE ((HO.out.ext (ext_drew _)).alloc _) rfl rfl (srcManyE Try.underlying49 _ _ _ _ 2 _ (by simp) rfl (by simp [Value.oneCell'])) (by first | (simp [maxLen]; done) | (simp [maxLen]; omega)) (by omega) ?_
            intro ao5 cap5 g5 W5 ho5 hg5 hon5
            refine hK _ _ ?_
            clear hK K
            have u1 := hon5.cell (b := m) (by simp; omega) HNe.out 1
            have u2 := hon5.frozen (b := m) (by simp; omega) HNe.out 1
            simp [go_sem, ↓IntWalk.iteOmega, mw1, mf1] at u1 u2
            refine wpAnyIn_take (i := 13) (v := ?_) rfl rfl (by kernel_rfl) (by kernel_rfl) (by kernel_rfl) (fun _ _ _ h => h) ⟨Or.inl ⟨by rfl, ?_⟩, fun _ => rfl⟩ ?_
            rotate_left
            · (intro w; go_simp; try (with_reducible rfl))
            refine wpAnyIn_take (i := 14) (v := ?_) rfl rfl (by kernel_rfl) (by kernel_rfl) (by kernel_rfl) (fun _ _ _ h => h) ⟨Or.inl ⟨by rfl, ?_⟩, fun _ => rfl⟩ ?_
            rotate_left
            · (intro w; go_simp; try (with_reducible rfl))
            refine wpAnyIn_take (i := 15) (v := ?_) rfl rfl (by kernel_rfl) (by kernel_rfl) (by kernel_rfl) (fun _ _ _ h => h) ⟨Or.inl ⟨by rfl, ?_⟩, fun _ => rfl⟩ ?_
            rotate_left
            · (intro w; go_simp; try (with_reducible rfl))
            refine wpAnyIn_ready (rs := [16]) (by kernel_rfl) (by simp) ?_
            refine AllReadyIn.cons rfl (fun K hK => ?_) AllReadyIn.nil
            go_simp
            refine hK _ _ ?_
            clear hK K
            refine wpAnyIn_done (by kernel_rfl) ?_ _
            go_end0
            have y0 := hon5.cell (b := m) (by simp; omega) HNe.out 0
            have y2 := hon5.cell (b := m) (by simp; omega) HNe.out 2
            have z0 := hon5.frozen (b := m) (by simp; omega) HNe.out 0
            have z2 := hon5.frozen (b := m) (by simp; omega) HNe.out 2
            simp [go_sem, ↓IntWalk.iteOmega, Hmw0.out, Hmw2.out, Hmf0.out, Hmf2.out] at y0 y2 z0 z2
            have hOn : Only (fun k => k = m) w W5 := (HwB.out.ext ((ext_drew wq).alloc (by simp) _)).trans hon5 (fun i _ e => by cases e)
            have hs5 := hOn.size
            have hg5' : ∀ k, g5 = some k → wq.heap.size ≤ k := fun k h => by
              rcases hg5 with e | e <;> rw [e] at h
              · cases h
              · cases h; simp
            have hMG := Hm.out
            have hS : OwnS arcRep (fun _ => False) W5 ao5 cap5 g5 59 [(x1, x2)] := ⟨[arcCs (x1, x2)], ho5, .cons (arcRep_ok ⟨Hx.out.2.1, Hx.out.2.2⟩) .nil⟩
            refine ⟨rfl, ao5, cap5, g5, take_done (row := (x0, [(x1, x2)])) y0 u1 y2 z0 u2 z2 hS ?_ (by omega) (fun e => by have := hg5' m e; omega) ?_, fun k h => by have := hg5' k h; omega, hOn.setCell (fun _ => rfl) _⟩
            · exact hMG.rd.only hOn (fun h0 k off e => hMG.lne k off e h0)
            · intro b o e h0
              refine ⟨hMG.lne b o e h0, fun e2 => ?_⟩
              have := hg5' b e2
              obtain ⟨b', o', e3, hb', _⟩ := hMG.rd.pos h0
              rw [e3] at e
              cases e
              omega
          · refine AllReadyIn.cons rfl (fun K hK => ?_) AllReadyIn.nil
            go_simp
            refine hK _ _ ?_
            clear hK K
            refine wpAnyIn_ready (rs := [5]) (by kernel_rfl) (by simp) ?_
            refine AllReadyIn.cons rfl (fun K hK => ?_) AllReadyIn.nil
            go_simp
            refine hK _ _ ?_
            clear hK K
            refine wpAnyIn_ready (rs := [12]) (by kernel_rfl) (by simp) ?_
            refine AllReadyIn.cons rfl (fun K hK => ?_) AllReadyIn.nil
            try rw [alloc_drew]
            refine step_appIn (fun _ => trivial) rfl (.tmp 66) (.tmp 72) 49 49 rfl hE ((HO.out.ext (ext_drew _)).alloc _) rfl rfl (srcManyE Try.underlying49 _ _ _ _ 2 _ (by simp) rfl (by simp [Value.oneCell'])) (by first | (simp [maxLen]; done) | (simp [maxLen]; omega)) (by omega) ?_
            intro ao5 cap5 g5 W5 ho5 hg5 hon5
            refine hK _ _ ?_
            clear hK K
            have u1 := hon5.cell (b := m) (by simp; omega) HNe.out 1
            have u2 := hon5.frozen (b := m) (by simp; omega) HNe.out 1
            simp [go_sem, ↓IntWalk.iteOmega, mw1, mf1] at u1 u2
            refine wpAnyIn_take (i := 13) (v := ?_) rfl rfl (by kernel_rfl) (by kernel_rfl) (by kernel_rfl) (fun _ _ _ h => h) ⟨Or.inl ⟨by rfl, ?_⟩, fun _ => rfl⟩ ?_
            rotate_left
            · (intro w; go_simp; try (with_reducible rfl))
            refine wpAnyIn_take (i := 14) (v := ?_) rfl rfl (by kernel_rfl) (by kernel_rfl) (by kernel_rfl) (fun _ _ _ h => h) ⟨Or.inl ⟨by rfl, ?_⟩, fun _ => rfl⟩ ?_
            rotate_left
            · (intro w; go_simp; try (with_reducible rfl))
            refine wpAnyIn_take (i := 15) (v := ?_) rfl rfl (by kernel_rfl) (by kernel_rfl) (by kernel_rfl) (fun _ _ _ h => h) ⟨Or.inl ⟨by rfl, ?_⟩, fun _ => rfl⟩ ?_
            rotate_left
            · (intro w; go_simp; try (with_reducible rfl))
            refine wpAnyIn_ready (rs := [16]) (by kernel_rfl) (by simp) ?_
            refine AllReadyIn.cons rfl (fun K hK => ?_) AllReadyIn.nil
            go_simp
            refine hK _ _ ?_
            clear hK K
            refine wpAnyIn_done (by kernel_rfl) ?_ _
            go_end0
            have y0 := hon5.cell (b := m) (by simp; omega) HNe.out 0
            have y2 := hon5.cell (b := m) (by simp; omega) HNe.out 2
            have z0 := hon5.frozen (b := m) (by simp; omega) HNe.out 0
            have z2 := hon5.frozen (b := m) (by simp; omega) HNe.out 2
            simp [go_sem, ↓IntWalk.iteOmega, Hmw0.out, Hmw2.out, Hmf0.out, Hmf2.out] at y0 y2 z0 z2
            have hOn : Only (fun k => k = m) w W5 := (HwB.out.ext ((ext_drew wq).alloc (by simp) _)).trans hon5 (fun i _ e => by cases e)
            have hs5 := hOn.size
            have hg5' : ∀ k, g5 = some k → wq.heap.size ≤ k := fun k h => by
              rcases hg5 with e | e <;> rw [e] at h
              · cases h
              · cases h; simp
            have hMG := Hm.out
            have hS : OwnS arcRep (fun _ => False) W5 ao5 cap5 g5 59 [(x1, x2)] := ⟨[arcCs (x1, x2)], ho5, .cons (arcRep_ok ⟨Hx.out.2.1, Hx.out.2.2⟩) .nil⟩
            refine ⟨rfl, ao5, cap5, g5, take_done (row := (x0, [(x1, x2)])) y0 u1 y2 z0 u2 z2 hS ?_ (by omega) (fun e => by have := hg5' m e; omega) ?_, fun k h => by have := hg5' k h; omega, hOn.setCell (fun _ => rfl) _⟩
            · exact hMG.rd.only hOn (fun h0 k off e => hMG.lne k off e h0)
            · intro b o e h0
              refine ⟨hMG.lne b o e h0, fun e2 => ?_⟩
              have := hg5' b e2
              obtain ⟨b', o', e3, hb', _⟩ := hMG.rd.pos h0
              rw [e3] at e
              cases e
              omega
  · skip
    clear hfb
    go_enter Try.func47, Try.ntmps47
    go_wp2_with (go_at_call 46; refine (HFull.out _ (ext_alloc w _)).mono ?_; rintro e w2 ⟨rfl, hB2⟩; have e0 := ((bcell hB2).1 w.heap.size 0 (by simp)).trans (show _ = some (Value.int .u32 (x0 : Nat)) by simp [go_sem]); have e1 := ((bcell hB2).1 w.heap.size 1 (by simp)).trans (show _ = some (Value.int .u32 (x1 : Nat)) by simp [go_sem]); have e2 := ((bcell hB2).1 w.heap.size 2 (by simp)).trans (show _ = some (Value.int .u32 (x2 : Nat)) by simp [go_sem]); have mc0 := ((bcell ((ext_alloc w _).trans (hB2.mono (by simp)))).1 m 0 hmlt).trans mc0; have mc1 := ((bcell ((ext_alloc w _).trans (hB2.mono (by simp)))).1 m 1 hmlt).trans mc1; have mf0 := ((bcell ((ext_alloc w _).trans (hB2.mono (by simp)))).2 m 0 hmlt).trans mf0; have mf1 := ((bcell ((ext_alloc w _).trans (hB2.mono (by simp)))).2 m 1 hmlt).trans mf1; have mc2 := ((bcell ((ext_alloc w _).trans (hB2.mono (by simp)))).1 m 2 hmlt).trans mc2; have mf2 := ((bcell ((ext_alloc w _).trans (hB2.mono (by simp)))).2 m 2 hmlt).trans mf2; have hz2 := hB2.size; simp at hz2; have HB2 := Lib.hid hB2; clear hB2)
    go_quiet (fail)
    go_wp2_with fail
    obtain ⟨wq, hwq⟩ : ∃ x, ((w2.setCell ⟨m, 0, none⟩ (.int .u32 (x0 : Nat))).setCell ⟨m, 1, none⟩ (.slice none 0 0)).drewN nq = x := ⟨_, rfl⟩
    have hwB : Only (fun k => k = m) w wq := by
      rw [← hwq]
      exact (((Only.of_below (fp := fun k => k = m) ((ext_alloc w _).trans (HB2.out.mono (by simp)))).setCell (p := ⟨m, 0, none⟩) (fun _ => rfl) _).setCell (p := ⟨m, 1, none⟩) (fun _ => rfl) _).drewN nq
    have mw0 : wq.cell? ⟨m, 0, none⟩ = some (.int .u32 (x0 : Nat)) := by rw [← hwq]; simp [go_sem, cell_set_ite, mc0]
    have mw1 : wq.cell? ⟨m, 1, none⟩ = some (.slice none 0 0) := by rw [← hwq]; simp [go_sem, cell_set_ite, mc1]
    have mf1 : wq.frozen? ⟨m, 1, none⟩ = false := by rw [← hwq]; simp [go_sem, mf1]
    have e1 : wq.cell? ⟨w.heap.size, 1, none⟩ = some (.int .u32 (x1 : Nat)) := by rw [← hwq]; simp [go_sem, cell_set_ite, e1, hmw, hmw2]
    have e2 : wq.cell? ⟨w.heap.size, 2, none⟩ = some (.int .u32 (x2 : Nat)) := by rw [← hwq]; simp [go_sem, cell_set_ite, e2, hmw, hmw2]
    have hzq : w.heap.size + 1 ≤ wq.heap.size := by rw [← hwq]; simpa using hz2
    have HO := Lib.hid (Own.nil wq 59 2)
    have HNe : Hid ((none : Option Nat) ≠ some m) := Lib.hid (by simp)
    have mw2 : wq.cell? ⟨m, 2, none⟩ = some (.slice lo last.length lc) := by rw [← hwq]; simp [go_sem, cell_set_ite, mc2]
    have mf0q : wq.frozen? ⟨m, 0, none⟩ = false := by rw [← hwq]; simp [go_sem, mf0]
    have mf2q : wq.frozen? ⟨m, 2, none⟩ = false := by rw [← hwq]; simp [go_sem, mf2]
    have Hmw2 := Lib.hid mw2
    have Hmf0 := Lib.hid mf0q
    have Hmf2 := Lib.hid mf2q
    have HwB := Lib.hid hwB
    have Hmw0 := Lib.hid mw0
    have hmq : ¬ m = wq.heap.size := by omega
    have hmq2 : ¬ wq.heap.size = m := by omega
    have hsq : ¬ w.heap.size = wq.heap.size := by omega
    have hsq2 : ¬ wq.heap.size = w.heap.size := by omega
    rw [hwq]
    clear hwq hwB mc0 mc1 mc2 mf0 mf2 e0 mw0 mw2 mf0q mf2q
    refine (wpIn_wide (n := 0)).1 ?_
    refine wpIn_region_any (by kernel_rfl) ?_
    change wpAnyIn _ _ _ _ _ _ _ _ _ (World.drew _)
    refine wpAnyIn_take (i := 0) (v := ?_) rfl rfl (by kernel_rfl) (by kernel_rfl) (by kernel_rfl) (fun _ _ _ h => h) ⟨Or.inl ⟨by rfl, ?_⟩, fun _ => rfl⟩ ?_
    rotate_left
    · (intro w; go_simp; try (with_reducible rfl))
    refine wpAnyIn_take (i := 1) (v := ?_) rfl rfl (by kernel_rfl) (by kernel_rfl) (by kernel_rfl) (fun _ _ _ h => h) ⟨Or.inl ⟨by rfl, ?_⟩, fun _ => rfl⟩ ?_
    rotate_left
    · (intro w; go_simp; try (with_reducible rfl))
    refine wpAnyIn_take (i := 2) (v := ?_) rfl rfl (by kernel_rfl) (by kernel_rfl) (by kernel_rfl) (fun _ _ _ h => h) ⟨Or.inl ⟨by rfl, ?_⟩, fun _ => rfl⟩ ?_
    rotate_left
    · (intro w; go_simp; try (with_reducible rfl))
    refine wpAnyIn_take (i := 3) (v := ?_) rfl rfl (by kernel_rfl) (by kernel_rfl) (by kernel_rfl) (fun _ _ _ h => h) ⟨Or.inl ⟨by rfl, ?_⟩, fun _ => rfl⟩ ?_
    rotate_left
    · (intro w; go_simp; try (with_reducible rfl))
    refine wpAnyIn_take (i := 4) (v := ?_) rfl rfl (by kernel_rfl) (by kernel_rfl) (by kernel_rfl) (fun _ _ _ h => h) ⟨Or.inl ⟨by rfl, ?_⟩, fun _ => rfl⟩ ?_
    rotate_left
    · (intro w; go_simp; try (with_reducible rfl))
    refine wpAnyIn_take (i := 6) (v := ?_) rfl rfl (by kernel_rfl) (by kernel_rfl) (by kernel_rfl) (fun _ _ _ h => h) ⟨Or.inl ⟨by rfl, ?_⟩, fun _ => rfl⟩ ?_
    rotate_left
    · (intro w; go_simp; try (with_reducible rfl))
    refine wpAnyIn_take (i := 8) (v := ?_) rfl rfl (by kernel_rfl) (by kernel_rfl) (by kernel_rfl) (fun _ _ _ h => h) ⟨Or.inl ⟨by rfl, ?_⟩, fun _ => rfl⟩ ?_
    rotate_left
    · (intro w; go_simp; try (with_reducible rfl))
    refine wpAnyIn_ready (rs := [5, 7, 9]) (by kernel_rfl) (by simp) ?_
    refine AllReadyIn.cons rfl (fun K hK => ?_) ?_
    · go_simp
      refine hK _ _ ?_
      clear hK K
      refine wpAnyIn_ready (rs := [7, 9]) (by kernel_rfl) (by simp) ?_
      refine AllReadyIn.cons rfl (fun K hK => ?_) ?_
      · go_simp
        refine hK _ _ ?_
        clear hK K
        refine wpAnyIn_ready (rs := [9]) (by kernel_rfl) (by simp) ?_
        refine AllReadyIn.cons rfl (fun K hK => ?_) AllReadyIn.nil
        go_simp
        refine hK _ _ ?_
        clear hK K
        refine wpAnyIn_take (i := 10) (v := ?_) rfl rfl (by kernel_rfl) (by kernel_rfl) (by kernel_rfl) (fun _ _ _ h => h) ⟨Or.inl ⟨by rfl, ?_⟩, fun _ => rfl⟩ ?_
        rotate_left
        · (intro w; go_simp; try (with_reducible rfl))
        refine wpAnyIn_ready (rs := [11]) (by kernel_rfl) (by simp) ?_
        refine AllReadyIn.cons rfl (fun K hK => ?_) AllReadyIn.nil
        go_simp
        refine hK _ _ ?_
        clear hK K
        refine wpAnyIn_ready (rs := [12]) (by kernel_rfl) (by simp) ?_
        refine AllReadyIn.cons rfl (fun K hK => ?_) AllReadyIn.nil
        try rw [alloc_drew]
        refine step_appIn (fun _ => trivial) rfl (.tmp 66) (.tmp 72) 49 49 rfl hE ((HO.out.ext (ext_drew _)).alloc _) rfl rfl (srcManyE Try.underlying49 _ _ _ _ 2 _ (by simp) rfl (by simp [Value.oneCell'])) (by first | (simp [maxLen]; done) | (simp [maxLen]; omega)) (by omega) ?_
        intro ao5 cap5 g5 W5 ho5 hg5 hon5
        refine hK _ _ ?_
        clear hK K
        have u1 := hon5.cell (b := m) (by simp; omega) HNe.out 1
        have u2 := hon5.frozen (b := m) (by simp; omega) HNe.out 1
        simp [go_sem, ↓IntWalk.iteOmega, mw1, mf1] at u1 u2
        refine wpAnyIn_take (i := 13) (v := ?_) rfl rfl (by kernel_rfl) (by kernel_rfl) (by kernel_rfl) (fun _ _ _ h => h) ⟨Or.inl ⟨by rfl, ?_⟩, fun _ => rfl⟩ ?_
        rotate_left
        · (intro w; go_simp; try (with_reducible rfl))
        refine wpAnyIn_take (i := 14) (v := ?_) rfl rfl (by kernel_rfl) (by kernel_rfl) (by kernel_rfl) (fun _ _ _ h => h) ⟨Or.inl ⟨by rfl, ?_⟩, fun _ => rfl⟩ ?_
        rotate_left
        · (intro w; go_simp; try (with_reducible rfl))
        refine wpAnyIn_take (i := 15) (v := ?_) rfl rfl (by kernel_rfl) (by kernel_rfl) (by kernel_rfl) (fun _ _ _ h => h) ⟨Or.inl ⟨by rfl, ?_⟩, fun _ => rfl⟩ ?_
        rotate_left
        · (intro w; go_simp; try (with_reducible rfl))
        refine wpAnyIn_ready (rs := [16]) (by kernel_rfl) (by simp) ?_
        refine AllReadyIn.cons rfl (fun K hK => ?_) AllReadyIn.nil
        go_simp
        refine hK _ _ ?_
        clear hK K
        refine wpAnyIn_done (by kernel_rfl) ?_ _
        go_end0
        have y0 := hon5.cell (b := m) (by simp; omega) HNe.out 0
        have y2 := hon5.cell (b := m) (by simp; omega) HNe.out 2
        have z0 := hon5.frozen (b := m) (by simp; omega) HNe.out 0
        have z2 := hon5.frozen (b := m) (by simp; omega) HNe.out 2
        simp [go_sem, ↓IntWalk.iteOmega, Hmw0.out, Hmw2.out, Hmf0.out, Hmf2.out] at y0 y2 z0 z2
        have hOn : Only (fun k => k = m) w W5 := (HwB.out.ext ((ext_drew wq).alloc (by simp) _)).trans hon5 (fun i _ e => by cases e)
        have hs5 := hOn.size
        have hg5' : ∀ k, g5 = some k → wq.heap.size ≤ k := fun k h => by
          rcases hg5 with e | e <;> rw [e] at h
          · cases h
          · cases h; simp
        have hMG := Hm.out
        have hS : OwnS arcRep (fun _ => False) W5 ao5 cap5 g5 59 [(x1, x2)] := ⟨[arcCs (x1, x2)], ho5, .cons (arcRep_ok ⟨Hx.out.2.1, Hx.out.2.2⟩) .nil⟩
        refine ⟨rfl, ao5, cap5, g5, take_done (row := (x0, [(x1, x2)])) y0 u1 y2 z0 u2 z2 hS ?_ (by omega) (fun e => by have := hg5' m e; omega) ?_, fun k h => by have := hg5' k h; omega, hOn.setCell (fun _ => rfl) _⟩
        · exact hMG.rd.only hOn (fun h0 k off e => hMG.lne k off e h0)
        · intro b o e h0
          refine ⟨hMG.lne b o e h0, fun e2 => ?_⟩
          have := hg5' b e2
          obtain ⟨b', o', e3, hb', _⟩ := hMG.rd.pos h0
          rw [e3] at e
          cases e
          omega
      · refine AllReadyIn.cons rfl (fun K hK => ?_) AllReadyIn.nil
        go_simp
        refine hK _ _ ?_
        clear hK K
        refine wpAnyIn_ready (rs := [7]) (by kernel_rfl) (by simp) ?_
        refine AllReadyIn.cons rfl (fun K hK => ?_) AllReadyIn.nil
        go_simp
        refine hK _ _ ?_
        clear hK K
        refine wpAnyIn_take (i := 10) (v := ?_) rfl rfl (by kernel_rfl) (by kernel_rfl) (by kernel_rfl) (fun _ _ _ h => h) ⟨Or.inl ⟨by rfl, ?_⟩, fun _ => rfl⟩ ?_
        rotate_left
        · (intro w; go_simp; try (with_reducible rfl))
        refine wpAnyIn_ready (rs := [11]) (by kernel_rfl) (by simp) ?_
        refine AllReadyIn.cons rfl (fun K hK => ?_) AllReadyIn.nil
        go_simp
        refine hK _ _ ?_
        clear hK K
        refine wpAnyIn_ready (rs := [12]) (by kernel_rfl) (by simp) ?_
        refine AllReadyIn.cons rfl (fun K hK => ?_) AllReadyIn.nil
        try rw [alloc_drew]
        refine step_appIn (fun _ => trivial) rfl (.tmp 66) (.tmp 72) 49 49 rfl hE ((HO.out.ext (ext_drew _)).alloc _) rfl rfl (srcManyE Try.underlying49 _ _ _ _ 2 _ (by simp) rfl (by simp [Value.oneCell'])) (by first | (simp [maxLen]; done) | (simp [maxLen]; omega)) (by omega) ?_
        intro ao5 cap5 g5 W5 ho5 hg5 hon5
        refine hK _ _ ?_
        clear hK K
        have u1 := hon5.cell (b := m) (by simp; omega) HNe.out 1
        have u2 := hon5.frozen (b := m) (by simp; omega) HNe.out 1
        simp [go_sem, ↓IntWalk.iteOmega, mw1, mf1] at u1 u2
        refine wpAnyIn_take (i := 13) (v := ?_) rfl rfl (by kernel_rfl) (by kernel_rfl) (by kernel_rfl) (fun _ _ _ h => h) ⟨Or.inl ⟨by rfl, ?_⟩, fun _ => rfl⟩ ?_
        rotate_left
        · (intro w; go_simp; try (with_reducible rfl))
        refine wpAnyIn_take (i := 14) (v := ?_) rfl rfl (by kernel_rfl) (by kernel_rfl) (by kernel_rfl) (fun _ _ _ h => h) ⟨Or.inl ⟨by rfl, ?_⟩, fun _ => rfl⟩ ?_
        rotate_left
        · (intro w; go_simp; try (with_reducible rfl))
        refine wpAnyIn_take (i := 15) (v := ?_) rfl rfl (by kernel_rfl) (by kernel_rfl) (by kernel_rfl) (fun _ _ _ h => h) ⟨Or.inl ⟨by rfl, ?_⟩, fun _ => rfl⟩ ?_
        rotate_left
        · (intro w; go_simp; try (with_reducible rfl))
        refine wpAnyIn_ready (rs := [16]) (by kernel_rfl) (by simp) ?_
        refine AllReadyIn.cons rfl (fun K hK => ?_) AllReadyIn.nil
        go_simp
        refine hK _ _ ?_
        clear hK K
        refine wpAnyIn_done (by kernel_rfl) ?_ _
        go_end0
        have y0 := hon5.cell (b := m) (by simp; omega) HNe.out 0
        have y2 := hon5.cell (b := m) (by simp; omega) HNe.out 2
        have z0 := hon5.frozen (b := m) (by simp; omega) HNe.out 0
        have z2 := hon5.frozen (b := m) (by simp; omega) HNe.out 2
        simp [go_sem, ↓IntWalk.iteOmega, Hmw0.out, Hmw2.out, Hmf0.out, Hmf2.out] at y0 y2 z0 z2
        have hOn : Only (fun k => k = m) w W5 := (HwB.out.ext ((ext_drew wq).alloc (by simp) _)).trans hon5 (fun i _ e => by cases e)
        have hs5 := hOn.size
        have hg5' : ∀ k, g5 = some k → wq.heap.size ≤ k := fun k h => by
          rcases hg5 with e | e <;> rw [e] at h
          · cases h
          · cases h; simp
        have hMG := Hm.out
        have hS : OwnS arcRep (fun _ => False) W5 ao5 cap5 g5 59 [(x1, x2)] := ⟨[arcCs (x1, x2)], ho5, .cons (arcRep_ok ⟨Hx.out.2.1, Hx.out.2.2⟩) .nil⟩
        refine ⟨rfl, ao5, cap5, g5, take_done (row := (x0, [(x1, x2)])) y0 u1 y2 z0 u2 z2 hS ?_ (by omega) (fun e => by have := hg5' m e; omega) ?_, fun k h => by have := hg5' k h; omega, hOn.setCell (fun _ => rfl) _⟩
        · exact hMG.rd.only hOn (fun h0 k off e => hMG.lne k off e h0)
        · intro b o e h0
          refine ⟨hMG.lne b o e h0, fun e2 => ?_⟩
          have := hg5' b e2
          obtain ⟨b', o', e3, hb', _⟩ := hMG.rd.pos h0
          rw [e3] at e
          cases e
          omega
    · refine AllReadyIn.cons rfl (fun K hK => ?_) ?_
      · go_simp
        refine hK _ _ ?_
        clear hK K
        refine wpAnyIn_ready (rs := [5, 9]) (by kernel_rfl) (by simp) ?_
        refine AllReadyIn.cons rfl (fun K hK => ?_) ?_
        · go_simp
          refine hK _ _ ?_
          clear hK K
          refine wpAnyIn_ready (rs := [9]) (by kernel_rfl) (by simp) ?_
          refine AllReadyIn.cons rfl (fun K hK => ?_) AllReadyIn.nil
          go_simp
          refine hK _ _ ?_
          clear hK K
          refine wpAnyIn_take (i := 10) (v := ?_) rfl rfl (by kernel_rfl) (by kernel_rfl) (by kernel_rfl) (fun _ _ _ h => h) ⟨Or.inl ⟨by rfl, ?_⟩, fun _ => rfl⟩ ?_
          rotate_left
          · (intro w; go_simp; try (with_reducible rfl))
          refine wpAnyIn_ready (rs := [11]) (by kernel_rfl) (by simp) ?_
          refine AllReadyIn.cons rfl (fun K hK => ?_) AllReadyIn.nil
          go_simp
          refine hK _ _ ?_
          clear hK K
          refine wpAnyIn_ready (rs := [12]) (by kernel_rfl) (by simp) ?_
          refine AllReadyIn.cons rfl (fun K hK => ?_) AllReadyIn.nil
          try rw [alloc_drew]
          refine step_appIn (fun _ => trivial) rfl (.tmp 66) (.tmp 72) 49 49 rfl hE ((HO.out.ext (ext_drew _)).alloc _) rfl rfl (srcManyE Try.underlying49 _ _ _ _ 2 _ (by simp) rfl (by simp [Value.oneCell'])) (by first | (simp [maxLen]; done) | (simp [maxLen]; omega)) (by omega) ?_
          intro ao5 cap5 g5 W5 ho5 hg5 hon5
          refine hK _ _ ?_
          clear hK K
          have u1 := hon5.cell (b := m) (by simp; omega) HNe.out 1
          have u2 := hon5.frozen (b := m) (by simp; omega) HNe.out 1
          simp [go_sem, ↓IntWalk.iteOmega, mw1, mf1] at u1 u2
          refine wpAnyIn_take (i := 13) (v := ?_) rfl rfl (by kernel_rfl) (by kernel_rfl) (by kernel_rfl) (fun _ _ _ h => h) ⟨Or.inl ⟨by rfl, ?_⟩, fun _ => rfl⟩ ?_
          rotate_left
          · (intro w; go_simp; try (with_reducible rfl))
          refine wpAnyIn_take (i := 14) (v := ?_) rfl rfl (by kernel_rfl) (by kernel_rfl) (by kernel_rfl) (fun _ _ _ h => h) ⟨Or.inl ⟨by rfl, ?_⟩, fun _ => rfl⟩ ?_
          rotate_left
          · (intro w; go_simp; try (with_reducible rfl))
          refine wpAnyIn_take (i := 15) (v := ?_) rfl rfl (by kernel_rfl) (by kernel_rfl) (by kernel_rfl) (fun _ _ _ h => h) ⟨Or.inl ⟨by rfl, ?_⟩, fun _ => rfl⟩ ?_
          rotate_left
          · (intro w; go_simp; try (with_reducible rfl))
          refine wpAnyIn_ready (rs := [16]) (by kernel_rfl) (by simp) ?_
          refine AllReadyIn.cons rfl (fun K hK => ?_) AllReadyIn.nil
          go_simp
          refine hK _ _ ?_
          clear hK K
          refine wpAnyIn_done (by kernel_rfl) ?_ _
          go_end0
          have y0 := hon5.cell (b := m) (by simp; omega) HNe.out 0
          have y2 := hon5.cell (b := m) (by simp; omega) HNe.out 2
          have z0 := hon5.frozen (b := m) (by simp; omega) HNe.out 0
          have z2 := hon5.frozen (b := m) (by simp; omega) HNe.out 2
          simp [go_sem, ↓IntWalk.iteOmega, Hmw0.out, Hmw2.out, Hmf0.out, Hmf2.out] at y0 y2 z0 z2
          have hOn : Only (fun k => k = m) w W5 := (HwB.out.ext ((ext_drew wq).alloc (by simp) _)).trans hon5 (fun i _ e => by cases e)
          have hs5 := hOn.size
          have hg5' : ∀ k, g5 = some k → wq.heap.size ≤ k := fun k h => by
            rcases hg5 with e | e <;> rw [e] at h
            · cases h
            · cases h; simp
          have hMG := Hm.out
          have hS : OwnS arcRep (fun _ => False) W5 ao5 cap5 g5 59 [(x1, x2)] := ⟨[arcCs (x1, x2)], ho5, .cons (arcRep_ok ⟨Hx.out.2.1, Hx.out.2.2⟩) .nil⟩
          refine ⟨rfl, ao5, cap5, g5, take_done (row := (x0, [(x1, x2)])) y0 u1 y2 z0 u2 z2 hS ?_ (by omega) (fun e => by have := hg5' m e; omega) ?_, fun k h => by have := hg5' k h; omega, hOn.setCell (fun _ => rfl) _⟩
          · exact hMG.rd.only hOn (fun h0 k off e => hMG.lne k off e h0)
          · intro b o e h0
            refine ⟨hMG.lne b o e h0, fun e2 => ?_⟩
            have := hg5' b e2
            obtain ⟨b', o', e3, hb', _⟩ := hMG.rd.pos h0
            rw [e3] at e
            cases e
            omega
        · refine AllReadyIn.cons rfl (fun K hK => ?_) AllReadyIn.nil
          go_simp
          refine hK _ _ ?_
          clear hK K
          refine wpAnyIn_take (i := 10) (v := ?_) rfl rfl (by kernel_rfl) (by kernel_rfl) (by kernel_rfl) (fun _ _ _ h => h) ⟨Or.inl ⟨by rfl, ?_⟩, fun _ => rfl⟩ ?_
          rotate_left
          · (intro w; go_simp; try (with_reducible rfl))
          refine wpAnyIn_ready (rs := [5, 11]) (by kernel_rfl) (by simp) ?_
          refine AllReadyIn.cons rfl (fun K hK => ?_) ?_
          · go_simp
            refine hK _ _ ?_
            clear hK K
            refine wpAnyIn_ready (rs := [11]) (by kernel_rfl) (by simp) ?_
            refine AllReadyIn.cons rfl (fun K hK => ?_) AllReadyIn.nil
            go_simp
            refine hK _ _ ?_
            clear hK K
            refine wpAnyIn_ready (rs := [12]) (by kernel_rfl) (by simp) ?_
            refine AllReadyIn.cons rfl (fun K hK => ?_) AllReadyIn.nil
            try rw [alloc_drew]
            refine step_appIn (fun _ => trivial) rfl (.tmp 66) (.tmp 72) 49 49 rfl hE ((HO.out.ext (ext_drew _)).alloc _) rfl rfl (srcManyE Try.underlying49 _ _ _ _ 2 _ (by simp) rfl (by simp [Value.oneCell'])) (by first | (simp [maxLen]; done) | (simp [maxLen]; omega)) (by omega) ?_
            intro ao5 cap5 g5 W5 ho5 hg5 hon5
            refine hK _ _ ?_
            clear hK K
            have u1 := hon5.cell (b := m) (by simp; omega) HNe.out 1
            have u2 := hon5.frozen (b := m) (by simp; omega) HNe.out 1
            simp [go_sem, ↓IntWalk.iteOmega, mw1, mf1] at u1 u2
            refine wpAnyIn_take (i := 13) (v := ?_) rfl rfl (by kernel_rfl) (by kernel_rfl) (by kernel_rfl) (fun _ _ _ h => h) ⟨Or.inl ⟨by rfl, ?_⟩, fun _ => rfl⟩ ?_
            rotate_left
            · (intro w; go_simp; try (with_reducible rfl))
            refine wpAnyIn_take (i := 14) (v := ?_) rfl rfl (by kernel_rfl) (by kernel_rfl) (by kernel_rfl) (fun _ _ _ h => h) ⟨Or.inl ⟨by rfl, ?_⟩, fun _ => rfl⟩ ?_
            rotate_left
            · (intro w; go_simp; try (with_reducible rfl))
            refine wpAnyIn_take (i := 15) (v := ?_) rfl rfl (by kernel_rfl) (by kernel_rfl) (by kernel_rfl) (fun _ _ _ h => h) ⟨Or.inl ⟨by rfl, ?_⟩, fun _ => rfl⟩ ?_
            rotate_left
            · (intro w; go_simp; try (with_reducible rfl))
            refine wpAnyIn_ready (rs := [16]) (by kernel_rfl) (by simp) ?_
            refine AllReadyIn.cons rfl (fun K hK => ?_) AllReadyIn.nil
            go_simp
            refine hK _ _ ?_
            clear hK K
            refine wpAnyIn_done (by kernel_rfl) ?_ _
            go_end0
            have y0 := hon5.cell (b := m) (by simp; omega) HNe.out 0
            have y2 := hon5.cell (b := m) (by simp; omega) HNe.out 2
            have z0 := hon5.frozen (b := m) (by simp; omega) HNe.out 0
            have z2 := hon5.frozen (b := m) (by simp; omega) HNe.out 2
            simp [go_sem, ↓IntWalk.iteOmega, Hmw0.out, Hmw2.out, Hmf0.out, Hmf2.out] at y0 y2 z0 z2
            have hOn : Only (fun k => k = m) w W5 := (HwB.out.ext ((ext_drew wq).alloc (by simp) _)).trans hon5 (fun i _ e => by cases e)
            have hs5 := hOn.size
            have hg5' : ∀ k, g5 = some k → wq.heap.size ≤ k := fun k h => by
              rcases hg5 with e | e <;> rw [e] at h
              · cases h
              · cases h; simp
            have hMG := Hm.out
            have hS : OwnS arcRep (fun _ => False) W5 ao5 cap5 g5 59 [(x1, x2)] := ⟨[arcCs (x1, x2)], ho5, .cons (arcRep_ok ⟨Hx.out.2.1, Hx.out.2.2⟩) .nil⟩
            refine ⟨rfl, ao5, cap5, g5, take_done (row := (x0, [(x1, x2)])) y0 u1 y2 z0 u2 z2 hS ?_ (by omega) (fun e => by have := hg5' m e; omega) ?_, fun k h => by have := hg5' k h; omega, hOn.setCell (fun _ => rfl) _⟩
            · exact hMG.rd.only hOn (fun h0 k off e => hMG.lne k off e h0)
            · intro b o e h0
              refine ⟨hMG.lne b o e h0, fun e2 => ?_⟩
              have := hg5' b e2
              obtain ⟨b', o', e3, hb', _⟩ := hMG.rd.pos h0
              rw [e3] at e
              cases e
              omega
          · refine AllReadyIn.cons rfl (fun K hK => ?_) AllReadyIn.nil
            go_simp
            refine hK _ _ ?_
            clear hK K
            refine wpAnyIn_ready (rs := [5]) (by kernel_rfl) (by simp) ?_
            refine AllReadyIn.cons rfl (fun K hK => ?_) AllReadyIn.nil
            go_simp
            refine hK _ _ ?_
            clear hK K
            refine wpAnyIn_ready (rs := [12]) (by kernel_rfl) (by simp) ?_
            refine AllReadyIn.cons rfl (fun K hK => ?_) AllReadyIn.nil
            try rw [alloc_drew]
            refine step_appIn (fun _ => trivial) rfl (.tmp 66) (.tmp 72) 49 49 rfl hE ((HO.out.ext (ext_drew _)).alloc _) rfl rfl (srcManyE Try.underlying49 _ _ _ _ 2 _ (by simp) rfl (by simp [Value.oneCell'])) (by first | (simp [maxLen]; done) | (simp [maxLen]; omega)) (by omega) ?_
            intro ao5 cap5 g5 W5 ho5 hg5 hon5
            refine hK _ _ ?_
            clear hK K
            have u1 := hon5.cell (b := m) (by simp; omega) HNe.out 1
            have u2 := hon5.frozen (b := m) (by simp; omega) HNe.out 1
            simp [go_sem, ↓IntWalk.iteOmega, mw1, mf1] at u1 u2
            refine wpAnyIn_take (i := 13) (v := ?_) rfl rfl (by kernel_rfl) (by kernel_rfl) (by kernel_rfl) (fun _ _ _ h => h) ⟨Or.inl ⟨by rfl, ?_⟩, fun _ => rfl⟩ ?_
            rotate_left
            · (intro w; go_simp; try (with_reducible rfl))
            refine wpAnyIn_take (i := 14) (v := ?_) rfl rfl (by kernel_rfl) (by kernel_rfl) (by kernel_rfl) (fun _ _ _ h => h) ⟨Or.inl ⟨by rfl, ?_⟩, fun _ => rfl⟩ ?_
            rotate_left
            · (intro w; go_simp; try (with_reducible rfl))
            refine wpAnyIn_take (i := 15) (v := ?_) rfl rfl (by kernel_rfl) (by kernel_rfl) (by kernel_rfl) (fun _ _ _ h => h) ⟨Or.inl ⟨by rfl, ?_⟩, fun _ => rfl⟩ ?_
            rotate_left
            · (intro w; go_simp; try (with_reducible rfl))
            refine wpAnyIn_ready (rs := [16]) (by kernel_rfl) (by simp) ?_
            refine AllReadyIn.cons rfl (fun K hK => ?_) AllReadyIn.nil
            go_simp
            refine hK _ _ ?_
            clear hK K
            refine wpAnyIn_done (by kernel_rfl) ?_ _
            go_end0
            have y0 := hon5.cell (b := m) (by simp; omega) HNe.out 0
            have y2 := hon5.cell (b := m) (by simp; omega) HNe.out 2
            have z0 := hon5.frozen (b := m) (by simp; omega) HNe.out 0
            have z2 := hon5.frozen (b := m) (by simp; omega) HNe.out 2
            simp [go_sem, ↓IntWalk.iteOmega, Hmw0.out, Hmw2.out, Hmf0.out, Hmf2.out] at y0 y2 z0 z2
            have hOn : Only (fun k => k = m) w W5 := (HwB.out.ext ((ext_drew wq).alloc (by simp) _)).trans hon5 (fun i _ e => by cases e)
            have hs5 := hOn.size
            have hg5' : ∀ k, g5 = some k → wq.heap.size ≤ k := fun k h => by
              rcases hg5 with e | e <;> rw [e] at h
              · cases h
              · cases h; simp
            have hMG := Hm.out
            have hS : OwnS arcRep (fun _ => False) W5 ao5 cap5 g5 59 [(x1, x2)] := ⟨[arcCs (x1, x2)], ho5, .cons (arcRep_ok ⟨Hx.out.2.1, Hx.out.2.2⟩) .nil⟩
            refine ⟨rfl, ao5, cap5, g5, take_done (row := (x0, [(x1, x2)])) y0 u1 y2 z0 u2 z2 hS ?_ (by omega) (fun e => by have := hg5' m e; omega) ?_, fun k h => by have := hg5' k h; omega, hOn.setCell (fun _ => rfl) _⟩
            · exact hMG.rd.only hOn (fun h0 k off e => hMG.lne k off e h0)
            · intro b o e h0
              refine ⟨hMG.lne b o e h0, fun e2 => ?_⟩
              have := hg5' b e2
              obtain ⟨b', o', e3, hb', _⟩ := hMG.rd.pos h0
              rw [e3] at e
              cases e
              omega
      · refine AllReadyIn.cons rfl (fun K hK => ?_) AllReadyIn.nil
        go_simp
        refine hK _ _ ?_
        clear hK K
        refine wpAnyIn_ready (rs := [5, 7]) (by kernel_rfl) (by simp) ?_
        refine AllReadyIn.cons rfl (fun K hK => ?_) ?_
        · go_simp
          refine hK _ _ ?_
          clear hK K
          refine wpAnyIn_ready (rs := [7]) (by kernel_rfl) (by simp) ?_
          refine AllReadyIn.cons rfl (fun K hK => ?_) AllReadyIn.nil
          go_simp
          refine hK _ _ ?_
          clear hK K
          refine wpAnyIn_take (i := 10) (v := ?_) rfl rfl (by kernel_rfl) (by kernel_rfl) (by kernel_rfl) (fun _ _ _ h => h) ⟨Or.inl ⟨by rfl, ?_⟩, fun _ => rfl⟩ ?_
          rotate_left
          · (intro w; go_simp; try (with_reducible rfl))
          refine wpAnyIn_ready (rs := [11]) (by kernel_rfl) (by simp) ?_
          refine AllReadyIn.cons rfl (fun K hK => ?_) AllReadyIn.nil
          go_simp
          refine hK _ _ ?_
          clear hK K
          refine wpAnyIn_ready (rs := [12]) (by kernel_rfl) (by simp) ?_
          refine AllReadyIn.cons rfl (fun K hK => ?_) AllReadyIn.nil
          try rw [alloc_drew]
          refine step_appIn (fun _ => trivial) rfl (.tmp 66) (.tmp 72) 49 49 rfl hE ((HO.out.ext (ext_drew _)).alloc _) rfl rfl (srcManyE Try.underlying49 _ _ _ _ 2 _ (by simp) rfl (by simp [Value.oneCell'])) (by first | (simp [maxLen]; done) | (simp [maxLen]; omega)) (by omega) ?_
          intro ao5 cap5 g5 W5 ho5 hg5 hon5
          refine hK _ _ ?_
          clear hK K
          have u1 := hon5.cell (b := m) (by simp; omega) HNe.out 1
          have u2 := hon5.frozen (b := m) (by simp; omega) HNe.out 1
          simp [go_sem, ↓IntWalk.iteOmega, mw1, mf1] at u1 u2
          refine wpAnyIn_take (i := 13) (v := ?_) rfl rfl (by kernel_rfl) (by kernel_rfl) (by kernel_rfl) (fun _ _ _ h => h) ⟨Or.inl ⟨by rfl, ?_⟩, fun _ => rfl⟩ ?_
          rotate_left
          · (intro w; go_simp; try (with_reducible rfl))
          refine wpAnyIn_take (i := 14) (v := ?_) rfl rfl (by kernel_rfl) (by kernel_rfl) (by kernel_rfl) (fun _ _ _ h => h) ⟨Or.inl ⟨by rfl, ?_⟩, fun _ => rfl⟩ ?_
          rotate_left
          · (intro w; go_simp; try (with_reducible rfl))
          refine wpAnyIn_take (i := 15) (v := ?_) rfl rfl (by kernel_rfl) (by kernel_rfl) (by kernel_rfl) (fun _ _ _ h => h) ⟨Or.inl ⟨by rfl, ?_⟩, fun _ => rfl⟩ ?_
          rotate_left
          · (intro w; go_simp; try (with_reducible rfl))
          refine wpAnyIn_ready (rs := [16]) (by kernel_rfl) (by simp) ?_
          refine AllReadyIn.cons rfl (fun K hK => ?_) AllReadyIn.nil
          go_simp
          refine hK _ _ ?_
          clear hK K
          refine wpAnyIn_done (by kernel_rfl) ?_ _
          go_end0
          have y0 := hon5.cell (b := m) (by simp; omega) HNe.out 0
          have y2 := hon5.cell (b := m) (by simp; omega) HNe.out 2
          have z0 := hon5.frozen (b := m) (by simp; omega) HNe.out 0
          have z2 := hon5.frozen (b := m) (by simp; omega) HNe.out 2
          simp [go_sem, ↓IntWalk.iteOmega, Hmw0.out, Hmw2.out, Hmf0.out, Hmf2.out] at y0 y2 z0 z2
          have hOn : Only (fun k => k = m) w W5 := (HwB.out.ext ((ext_drew wq).alloc (by simp) _)).trans hon5 (fun i _ e => by cases e)
          have hs5 := hOn.size
          have hg5' : ∀ k, g5 = some k → wq.heap.size ≤ k := fun k h => by
            rcases hg5 with e | e <;> rw [e] at h
            · cases h
            · cases h; simp
          have hMG := Hm.out
          have hS : OwnS arcRep (fun _ => False) W5 ao5 cap5 g5 59 [(x1, x2)] := ⟨[arcCs (x1, x2)], ho5, .cons (arcRep_ok ⟨Hx.out.2.1, Hx.out.2.2⟩) .nil⟩
          refine ⟨rfl, ao5, cap5, g5, take_done (row := (x0, [(x1, x2)])) y0 u1 y2 z0 u2 z2 hS ?_ (by omega) (fun e => by have := hg5' m e; omega) ?_, fun k h => by have := hg5' k h; omega, hOn.setCell (fun _ => rfl) _⟩
          · exact hMG.rd.only hOn (fun h0 k off e => hMG.lne k off e h0)
          · intro b o e h0
            refine ⟨hMG.lne b o e h0, fun e2 => ?_⟩
            have := hg5' b e2
            obtain ⟨b', o', e3, hb', _⟩ := hMG.rd.pos h0
            rw [e3] at e
            cases e
            omega
        · refine AllReadyIn.cons rfl (fun K hK => ?_) AllReadyIn.nil
          go_simp
          refine hK _ _ ?_
          clear hK K
          refine wpAnyIn_take (i := 10) (v := ?_) rfl rfl (by kernel_rfl) (by kernel_rfl) (by kernel_rfl) (fun _ _ _ h => h) ⟨Or.inl ⟨by rfl, ?_⟩, fun _ => rfl⟩ ?_
          rotate_left
          · (intro w; go_simp; try (with_reducible rfl))
          refine wpAnyIn_ready (rs := [5, 11]) (by kernel_rfl) (by simp) ?_
          refine AllReadyIn.cons rfl (fun K hK => ?_) ?_
          · go_simp
            refine hK _ _ ?_
            clear hK K
            refine wpAnyIn_ready (rs := [11]) (by kernel_rfl) (by simp) ?_
            refine AllReadyIn.cons rfl (fun K hK => ?_) AllReadyIn.nil
            go_simp
            refine hK _ _ ?_
            clear hK K
            refine wpAnyIn_ready (rs := [12]) (by kernel_rfl) (by simp) ?_
            refine AllReadyIn.cons rfl (fun K hK => ?_) AllReadyIn.nil
            try rw [alloc_drew]
            refine step_appIn (fun _ => trivial) rfl (.tmp 66) (.tmp 72) 49 49 rfl hE ((HO.out.ext (ext_drew _)).alloc _) rfl rfl (srcManyE Try.underlying49 _ _ _ _ 2 _ (by simp) rfl (by simp [Value.oneCell'])) (by first | (simp [maxLen]; done) | (simp [maxLen]; omega)) (by omega) ?_
            intro ao5 cap5 g5 W5 ho5 hg5 hon5
            refine hK _ _ ?_
            clear hK K
            have u1 := hon5.cell (b := m) (by simp; omega) HNe.out 1
            have u2 := hon5.frozen (b := m) (by simp; omega) HNe.out 1
            simp [go_sem, ↓IntWalk.iteOmega, mw1, mf1] at u1 u2
            refine wpAnyIn_take (i := 13) (v := ?_) rfl rfl (by kernel_rfl) (by kernel_rfl) (by kernel_rfl) (fun _ _ _ h => h) ⟨Or.inl ⟨by rfl, ?_⟩, fun _ => rfl⟩ ?_
            rotate_left
            · (intro w; go_simp; try (with_reducible rfl))
            refine wpAnyIn_take (i := 14) (v := ?_) rfl rfl (by kernel_rfl) (by kernel_rfl) (by kernel_rfl) (fun _ _ _ h => h) ⟨Or.inl ⟨by rfl, ?_⟩, fun _ => rfl⟩ ?_
            rotate_left
            · (intro w; go_simp; try (with_reducible rfl))
            refine wpAnyIn_take (i := 15) (v := ?_) rfl rfl (by kernel_rfl) (by kernel_rfl) (by kernel_rfl) (fun _ _ _ h => h) ⟨Or.inl ⟨by rfl, ?_⟩, fun _ => rfl⟩ ?_
            rotate_left
            · (intro w; go_simp; try (with_reducible rfl))
            refine wpAnyIn_ready (rs := [16]) (by kernel_rfl) (by simp) ?_
            refine AllReadyIn.cons rfl (fun K hK => ?_) AllReadyIn.nil
            go_simp
            refine hK _ _ ?_
            clear hK K
            refine wpAnyIn_done (by kernel_rfl) ?_ _
            go_end0
            have y0 := hon5.cell (b := m) (by simp; omega) HNe.out 0
            have y2 := hon5.cell (b := m) (by simp; omega) HNe.out 2
            have z0 := hon5.frozen (b := m) (by simp; omega) HNe.out 0
            have z2 := hon5.frozen (b := m) (by simp; omega) HNe.out 2
            simp [go_sem, ↓IntWalk.iteOmega, Hmw0.out, Hmw2.out, Hmf0.out, Hmf2.out] at y0 y2 z0 z2
            have hOn : Only (fun k => k = m) w W5 := (HwB.out.ext ((ext_drew wq).alloc (by simp) _)).trans hon5 (fun i _ e => by cases e)
            have hs5 := hOn.size
            have hg5' : ∀ k, g5 = some k → wq.heap.size ≤ k := fun k h => by
              rcases hg5 with e | e <;> rw [e] at h
              · cases h
              · cases h; simp
            have hMG := Hm.out
            have hS : OwnS arcRep (fun _ => False) W5 ao5 cap5 g5 59 [(x1, x2)] := ⟨[arcCs (x1, x2)], ho5, .cons (arcRep_ok ⟨Hx.out.2.1, Hx.out.2.2⟩) .nil⟩
            refine ⟨rfl, ao5, cap5, g5, take_done (row := (x0, [(x1, x2)])) y0 u1 y2 z0 u2 z2 hS ?_ (by omega) (fun e => by have := hg5' m e; omega) ?_, fun k h => by have := hg5' k h; omega, hOn.setCell (fun _ => rfl) _⟩
            · exact hMG.rd.only hOn (fun h0 k off e => hMG.lne k off e h0)
            · intro b o e h0
              refine ⟨hMG.lne b o e h0, fun e2 => ?_⟩
              have := hg5' b e2
              obtain ⟨b', o', e3, hb', _⟩ := hMG.rd.pos h0
              rw [e3] at e
              cases e
              omega
          · refine AllReadyIn.cons rfl (fun K hK => ?_) AllReadyIn.nil
            go_simp
            refine hK _ _ ?_
            clear hK K
            refine wpAnyIn_ready (rs := [5]) (by kernel_rfl) (by simp) ?_
            refine AllReadyIn.cons rfl (fun K hK => ?_) AllReadyIn.nil
            go_simp
            refine hK _ _ ?_
            clear hK K
            refine wpAnyIn_ready (rs := [12]) (by kernel_rfl) (by simp) ?_
            refine AllReadyIn.cons rfl (fun K hK => ?_) AllReadyIn.nil
            try rw [alloc_drew]
            refine step_appIn (fun _ => trivial) rfl (.tmp 66) (.tmp 72) 49 49 rfl hE ((HO.out.ext (ext_drew _)).alloc _) rfl rfl (srcManyE Try.underlying49 _ _ _ _ 2 _ (by simp) rfl (by simp [Value.oneCell'])) (by first | (simp [maxLen]; done) | (simp [maxLen]; omega)) (by omega) ?_
            intro ao5 cap5 g5 W5 ho5 hg5 hon5
            refine hK _ _ ?_
            clear hK K
            have u1 := hon5.cell (b := m) (by simp; omega) HNe.out 1
            have u2 := hon5.frozen (b := m) (by simp; omega) HNe.out 1
            simp [go_sem, ↓IntWalk.iteOmega, mw1, mf1] at u1 u2
            refine wpAnyIn_take (i := 13) (v := ?_) rfl rfl (by kernel_rfl) (by kernel_rfl) (by kernel_rfl) (fun _ _ _ h => h) ⟨Or.inl ⟨by rfl, ?_⟩, fun _ => rfl⟩ ?_
            rotate_left
            · (intro w; go_simp; try (with_reducible rfl))
            refine wpAnyIn_take (i := 14) (v := ?_) rfl rfl (by kernel_rfl) (by kernel_rfl) (by kernel_rfl) (fun _ _ _ h => h) ⟨Or.inl ⟨by rfl, ?_⟩, fun _ => rfl⟩ ?_
            rotate_left
            · (intro w; go_simp; try (with_reducible rfl))
            refine wpAnyIn_take (i := 15) (v := ?_) rfl rfl (by kernel_rfl) (by kernel_rfl) (by kernel_rfl) (fun _ _ _ h => h) ⟨Or.inl ⟨by rfl, ?_⟩, fun _ => rfl⟩ ?_
            rotate_left
            · (intro w; go_simp; try (with_reducible rfl))
            refine wpAnyIn_ready (rs := [16]) (by kernel_rfl) (by simp) ?_
            refine AllReadyIn.cons rfl (fun K hK => ?_) AllReadyIn.nil
            go_simp
            refine hK _ _ ?_
            clear hK K
            refine wpAnyIn_done (by kernel_rfl) ?_ _
            go_end0
            have y0 := hon5.cell (b := m) (by simp; omega) HNe.out 0
            have y2 := hon5.cell (b := m) (by simp; omega) HNe.out 2
            have z0 := hon5.frozen (b := m) (by simp; omega) HNe.out 0
            have z2 := hon5.frozen (b := m) (by simp; omega) HNe.out 2
            simp [go_sem, ↓IntWalk.iteOmega, Hmw0.out, Hmw2.out, Hmf0.out, Hmf2.out] at y0 y2 z0 z2
            have hOn : Only (fun k => k = m) w W5 := (HwB.out.ext ((ext_drew wq).alloc (by simp) _)).trans hon5 (fun i _ e => by cases e)
            have hs5 := hOn.size
            have hg5' : ∀ k, g5 = some k → wq.heap.size ≤ k := fun k h => by
              rcases hg5 with e | e <;> rw [e] at h
              · cases h
              · cases h; simp
            have hMG := Hm.out
            have hS : OwnS arcRep (fun _ => False) W5 ao5 cap5 g5 59 [(x1, x2)] := ⟨[arcCs (x1, x2)], ho5, .cons (arcRep_ok ⟨Hx.out.2.1, Hx.out.2.2⟩) .nil⟩
            refine ⟨rfl, ao5, cap5, g5, take_done (row := (x0, [(x1, x2)])) y0 u1 y2 z0 u2 z2 hS ?_ (by omega) (fun e => by have := hg5' m e; omega) ?_, fun k h => by have := hg5' k h; omega, hOn.setCell (fun _ => rfl) _⟩
            · exact hMG.rd.only hOn (fun h0 k off e => hMG.lne k off e h0)
            · intro b o e h0
              refine ⟨hMG.lne b o e h0, fun e2 => ?_⟩
              have := hg5' b e2
              obtain ⟨b', o', e3, hb', _⟩ := hMG.rd.pos h0
              rw [e3] at e
              cases e
              omega
end Go.Proofs.Ytafbjkbdfdeacaa
