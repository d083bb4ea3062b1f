/- palmerlaw14.MergeKeys: the walk. -/
import Derived.Test.YtafbjkbdfdeacaaMergeLaw1
import Derived.Deep.RegionHeld
namespace Go.Proofs.Ytafbjkbdfdeacaa
set_option linter.unusedSimpArgs false
set_option linter.unusedVariables false
open Go.RowKit



set_option maxRecDepth 100000 in
set_option maxHeartbeats 3200000 in
theorem mergeKeys_walk (x y : EdgeD) (hx : okE x) (hy : okE y) (b : List UInt8) (ao : Option Addr) (cap : Nat) (w : World) (hcap : b.length ≤ cap) (hrd : Rd w ao b.length (byteVals b)) :
    Calls Try.prog 3 #[edgeV x, edgeV y, .slice ao b.length cap] w fun e w' => e = .returned (.bool true) ∧ Below w.heap.size w w' := by
  have hbe := belowE_key x y hx hy
  obtain ⟨x0, x1, x2⟩ := x
  obtain ⟨y0, y1, y2⟩ := y
  simp only [edgeV]
  by_cases hl : 100 < b.length
  · have hd : decide ((100 : Int) < b.length) = true := by simp; omega
    go_enter Try.func3, Try.ntmps3
    go_wp2_with (go_at_call 14; refine (awake14_any _).mono ?_; rintro e w1 ⟨rfl, hB1⟩)
    go_ret
    exact ⟨rfl, ((ext_alloc w _).alloc (by simp) _).trans (hB1.mono (by simp; omega))⟩
  · have hd : decide ((100 : Int) < b.length) = false := by simp; omega
    have HX := Lib.hid (mkey_any x0 x1 x2 hx.1 hx.2.1 hx.2.2)
    have HY := Lib.hid (mkey_any y0 y1 y2 hy.1 hy.2.1 hy.2.2)
    have HRk := Lib.hid (rkey_any x0 x1 x2 hx.1 hx.2.1 hx.2.2)
    have hkx : keyE (key3 x0 x1 x2) = (x0, x1, x2) := by unfold keyE; rw [if_pos (show (key3 x0 x1 x2).length = 12 from rfl), keyOf_key3 _ _ _ hx.1 hx.2.1 hx.2.2]
    have hOx : ∀ (W : World) (a : Option Addr) (c : Nat), Rd W a 12 (byteVals (key3 x0 x1 x2)) → Calls Try.prog 16 #[.slice a 12 c] W fun e w' => e = .returned (.tuple #[edgeV (x0, x1, x2), .int .i64 0]) ∧ Below W.heap.size W w' := fun W a c h => by
      have h2 := mof_any (key3 x0 x1 x2) a c W h
      rw [hkx, if_pos (show (key3 x0 x1 x2).length = 12 from rfl)] at h2
      exact h2
    have hOb := fun (W : World) (hB : Below w.heap.size w W) => mof_any b ao cap W (hrd.ext hB)
    have hRb := fun (W : World) (hB : Below w.heap.size w W) => rof_any b ao cap W hcap (hrd.ext hB)
    obtain ⟨⟨z0, z1, z2⟩, hz⟩ : ∃ z, keyE b = z := ⟨_, rfl⟩
    rw [hz] at hOb hRb
    simp only [edgeV] at hOx hOb hRb
    have hBl := rbelow_any (x0, x1, x2) (y0, y1, y2)
    simp only [edgeV] at hBl
    have hcmp : (Op.bytesLess (key3 x0 x1 x2) (key3 y0 y1 y2) == belowE (x0, x1, x2) (y0, y1, y2)) = true := by
      rw [bytesLess_dec, beq_iff_eq, Bool.eq_iff_iff, decide_eq_true_eq]; exact hbe.symm
    generalize belowE (x0, x1, x2) (y0, y1, y2) = be at hBl hcmp
    have HOx := Lib.hid hOx
    have HBl := Lib.hid hBl
    have Hcmp := Lib.hid hcmp
    clear hbe hx hy hrd hz hOx hBl hcmp hkx
    by_cases h12 : b.length = 12
    · rw [if_pos h12] at hOb
      rw [decide_eq_true h12] at hRb
      have HOb := Lib.hid hOb
      have HRb := Lib.hid hRb
      clear hOb hRb h12
      go_enter Try.func3, Try.ntmps3
      go_wp2_with fail
      obtain ⟨w0, hw0⟩ : ∃ w0, (w.alloc (Obj.cells #[Value.int IntKind.u32 (x0 : Nat), Value.int IntKind.u32 (x1 : Nat), Value.int IntKind.u32 (x2 : Nat)] 24)).alloc (Obj.cells #[Value.int IntKind.u32 (y0 : Nat), Value.int IntKind.u32 (y1 : Nat), Value.int IntKind.u32 (y2 : Nat)] 24) = w0 := ⟨_, rfl⟩
      have hB0 : Below w.heap.size w w0 := by rw [← hw0]; exact (ext_alloc w _).alloc (by simp) _
      have hs0 : w.heap.size + 2 ≤ w0.heap.size := by rw [← hw0]; simp
      have p0 : w0.cell? ⟨w.heap.size, 0, none⟩ = some (.int .u32 (x0 : Nat)) := by rw [← hw0]; simp [go_sem, ↓IntWalk.iteOmega]
      have p1 : w0.cell? ⟨w.heap.size, 1, none⟩ = some (.int .u32 (x1 : Nat)) := by rw [← hw0]; simp [go_sem, ↓IntWalk.iteOmega]
      have p2 : w0.cell? ⟨w.heap.size, 2, none⟩ = some (.int .u32 (x2 : Nat)) := by rw [← hw0]; simp [go_sem, ↓IntWalk.iteOmega]
      have q0 : w0.cell? ⟨w.heap.size + 1, 0, none⟩ = some (.int .u32 (y0 : Nat)) := by rw [← hw0]; simp [go_sem, ↓IntWalk.iteOmega]
      have q1 : w0.cell? ⟨w.heap.size + 1, 1, none⟩ = some (.int .u32 (y1 : Nat)) := by rw [← hw0]; simp [go_sem, ↓IntWalk.iteOmega]
      have q2 : w0.cell? ⟨w.heap.size + 1, 2, none⟩ = some (.int .u32 (y2 : Nat)) := by rw [← hw0]; simp [go_sem, ↓IntWalk.iteOmega]
      rw [hw0]
      have HB0 := Lib.hid hB0
      clear hw0 hB0
      go_region_held3 (fun w' => w'.cell? ⟨w.heap.size, 0, none⟩ = some (.int .u32 (x0 : Nat)) ∧ w'.cell? ⟨w.heap.size, 1, none⟩ = some (.int .u32 (x1 : Nat)) ∧ w'.cell? ⟨w.heap.size, 2, none⟩ = some (.int .u32 (x2 : Nat)) ∧ w'.cell? ⟨w.heap.size + 1, 0, none⟩ = some (.int .u32 (y0 : Nat)) ∧ w'.cell? ⟨w.heap.size + 1, 1, none⟩ = some (.int .u32 (y1 : Nat)) ∧ w'.cell? ⟨w.heap.size + 1, 2, none⟩ = some (.int .u32 (y2 : Nat)))
        (first | exact ⟨p0, p1, p2, q0, q1, q2⟩ | exact ⟨HP1.out.1, HP1.out.2.1, HP1.out.2.2.1, HP1.out.2.2.2.1, HP1.out.2.2.2.2.1, HP1.out.2.2.2.2.2⟩ | exact ⟨HP2.out.1, HP2.out.2.1, HP2.out.2.2.1, HP2.out.2.2.2.1, HP2.out.2.2.2.2.1, HP2.out.2.2.2.2.2⟩)
        (first
          | (go_at_call 15; (with_reducible refine (HX.out _).mono ?_); rintro e w1 ⟨a1, c1, g1, rfl, ho1, hg1, hB1⟩; have hB1' : Below w0.heap.size w0 w1 := (ext_drew w0).trans hB1; have HP1 := Lib.hid (And.intro (((bcell hB1').1 w.heap.size 0 (by omega)).trans p0) (And.intro (((bcell hB1').1 w.heap.size 1 (by omega)).trans p1) (And.intro (((bcell hB1').1 w.heap.size 2 (by omega)).trans p2) (And.intro (((bcell hB1').1 (w.heap.size + 1) 0 (by omega)).trans q0) (And.intro (((bcell hB1').1 (w.heap.size + 1) 1 (by omega)).trans q1) (((bcell hB1').1 (w.heap.size + 1) 2 (by omega)).trans q2)))))); have Ho1 := Lib.hid ho1; have HB1 := Lib.hid hB1'; clear ho1 hg1 hB1 hB1')
          | (go_at_call 15; (with_reducible refine (HY.out _).mono ?_); rintro e w2 ⟨a2, c2, g2, rfl, ho2, hg2, hB2⟩; have hB2' : Below w0.heap.size w0 w2 := HB1.out.trans (hB2.mono HB1.out.size); have HP2 := Lib.hid (And.intro (((bcell hB2').1 w.heap.size 0 (by omega)).trans p0) (And.intro (((bcell hB2').1 w.heap.size 1 (by omega)).trans p1) (And.intro (((bcell hB2').1 w.heap.size 2 (by omega)).trans p2) (And.intro (((bcell hB2').1 (w.heap.size + 1) 0 (by omega)).trans q0) (And.intro (((bcell hB2').1 (w.heap.size + 1) 1 (by omega)).trans q1) (((bcell hB2').1 (w.heap.size + 1) 2 (by omega)).trans q2)))))); have Ho12 := Lib.hid (Ho1.out.ext hB2); have Ho2 := Lib.hid ho2; have HB2 := Lib.hid hB2'; clear ho2 hg2 hB2 hB2')
          | fail "no arm")
      go_wp2_with (first
        | (go_at_call 16; (with_reducible refine (HOx.out _ _ _ Ho12.out.rd).mono ?_); rintro e w3 ⟨rfl, hB3⟩; have HB3 := Lib.hid hB3; have hs3 := hB3.size; clear hB3)
        | (go_at_call 16; refine (HOb.out _ (HB0.out.trans ((HB2.out.trans ((HB3.out.trans ((ext_alloc w3 _).mono hs3)).mono HB2.out.size)).mono (by omega)))).mono ?_; rintro e w4 ⟨rfl, hB4⟩; have HB4 := Lib.hid hB4; have hs4 := hB4.size; clear hB4)
        | (go_at_call 17; refine (HRb.out _ (HB0.out.trans ((HB2.out.trans ((HB3.out.trans (((ext_alloc w3 _).trans (HB4.out.mono (by simp))).mono hs3)).mono HB2.out.size)).mono (by omega)) |>.trans ((ext_alloc w4 _).mono (by have := HB0.out.size; have := HB2.out.size; simp at hs4; omega)))).mono ?_; rintro e w5 ⟨rfl, hB5⟩; have HB5 := Lib.hid hB5; have hs5 := hB5.size; clear hB5))
      obtain ⟨WB, hWB⟩ : ∃ WB, w5.alloc (Obj.cells #[Value.int IntKind.u32 (z0 : Nat), Value.int IntKind.u32 (z1 : Nat), Value.int IntKind.u32 (z2 : Nat)] 24) = WB := ⟨_, rfl⟩
      have k4 : Below (w3.alloc (Obj.cells #[Value.int IntKind.u32 (x0 : Nat), Value.int IntKind.u32 (x1 : Nat), Value.int IntKind.u32 (x2 : Nat)] 24)).heap.size (w3.alloc (Obj.cells #[Value.int IntKind.u32 (x0 : Nat), Value.int IntKind.u32 (x1 : Nat), Value.int IntKind.u32 (x2 : Nat)] 24)) (w4.alloc (Obj.cells #[Value.int IntKind.u32 (z0 : Nat), Value.int IntKind.u32 (z1 : Nat), Value.int IntKind.u32 (z2 : Nat)] 24)) := HB4.out.trans ((ext_alloc w4 _).mono HB4.out.size)
      have k5 : Below (w4.alloc (Obj.cells #[Value.int IntKind.u32 (z0 : Nat), Value.int IntKind.u32 (z1 : Nat), Value.int IntKind.u32 (z2 : Nat)] 24)).heap.size (w4.alloc (Obj.cells #[Value.int IntKind.u32 (z0 : Nat), Value.int IntKind.u32 (z1 : Nat), Value.int IntKind.u32 (z2 : Nat)] 24)) WB := by rw [← hWB]; exact HB5.out.trans ((ext_alloc w5 _).mono HB5.out.size)
      have k45 := k4.trans (k5.mono k4.size)
      have k25 : Below w2.heap.size w2 WB := (HB3.out.trans ((ext_alloc w3 _).mono hs3)).trans (k45.mono (by simp; omega))
      have k05 : Below w0.heap.size w0 WB := HB2.out.trans (k25.mono HB2.out.size)
      have s05 := k05.size
      have s45 := k45.size
      have s5 := k5.size
      have s6 : w5.heap.size + 1 ≤ WB.heap.size := by rw [← hWB]; simp
      simp at s45 s5
      have hS : ∀ w', Below WB.heap.size WB w' → w'.cell? ⟨w.heap.size, 0, none⟩ = some (.int .u32 (x0 : Nat)) ∧ w'.cell? ⟨w.heap.size, 1, none⟩ = some (.int .u32 (x1 : Nat)) ∧ w'.cell? ⟨w.heap.size, 2, none⟩ = some (.int .u32 (x2 : Nat)) ∧ w'.cell? ⟨w.heap.size + 1, 0, none⟩ = some (.int .u32 (y0 : Nat)) ∧ w'.cell? ⟨w.heap.size + 1, 1, none⟩ = some (.int .u32 (y1 : Nat)) ∧ w'.cell? ⟨w.heap.size + 1, 2, none⟩ = some (.int .u32 (y2 : Nat)) ∧ w'.cell? ⟨w3.heap.size, 0, none⟩ = some (.int .u32 (x0 : Nat)) ∧ w'.cell? ⟨w3.heap.size, 1, none⟩ = some (.int .u32 (x1 : Nat)) ∧ w'.cell? ⟨w3.heap.size, 2, none⟩ = some (.int .u32 (x2 : Nat)) ∧ w'.cell? ⟨w4.heap.size, 0, none⟩ = some (.int .u32 (z0 : Nat)) ∧ w'.cell? ⟨w4.heap.size, 1, none⟩ = some (.int .u32 (z1 : Nat)) ∧ w'.cell? ⟨w4.heap.size, 2, none⟩ = some (.int .u32 (z2 : Nat)) ∧ w'.cell? ⟨w5.heap.size, 0, none⟩ = some (.int .u32 (z0 : Nat)) ∧ w'.cell? ⟨w5.heap.size, 1, none⟩ = some (.int .u32 (z1 : Nat)) ∧ w'.cell? ⟨w5.heap.size, 2, none⟩ = some (.int .u32 (z2 : Nat)) ∧ (convert 25 9 (.slice a1 12 c1)).run Try.prog w' = .ok (.string (bs (key3 x0 x1 x2))) w' ∧ (convert 25 9 (.slice a2 12 c2)).run Try.prog w' = .ok (.string (bs (key3 y0 y1 y2))) w' := fun w' h => ⟨((bcell h).1 (w.heap.size) 0 (by omega)).trans (((bcell k05).1 (w.heap.size) 0 (by omega)).trans p0), ((bcell h).1 (w.heap.size) 1 (by omega)).trans (((bcell k05).1 (w.heap.size) 1 (by omega)).trans p1), ((bcell h).1 (w.heap.size) 2 (by omega)).trans (((bcell k05).1 (w.heap.size) 2 (by omega)).trans p2), ((bcell h).1 (w.heap.size + 1) 0 (by omega)).trans (((bcell k05).1 (w.heap.size + 1) 0 (by omega)).trans q0), ((bcell h).1 (w.heap.size + 1) 1 (by omega)).trans (((bcell k05).1 (w.heap.size + 1) 1 (by omega)).trans q1), ((bcell h).1 (w.heap.size + 1) 2 (by omega)).trans (((bcell k05).1 (w.heap.size + 1) 2 (by omega)).trans q2), ((bcell h).1 w3.heap.size 0 (by omega)).trans (((bcell k45).1 w3.heap.size 0 (by simp)).trans (by simp [go_sem, ↓IntWalk.iteOmega])), ((bcell h).1 w3.heap.size 1 (by omega)).trans (((bcell k45).1 w3.heap.size 1 (by simp)).trans (by simp [go_sem, ↓IntWalk.iteOmega])), ((bcell h).1 w3.heap.size 2 (by omega)).trans (((bcell k45).1 w3.heap.size 2 (by simp)).trans (by simp [go_sem, ↓IntWalk.iteOmega])), ((bcell h).1 w4.heap.size 0 (by omega)).trans (((bcell k5).1 w4.heap.size 0 (by simp)).trans (by simp [go_sem, ↓IntWalk.iteOmega])), ((bcell h).1 w4.heap.size 1 (by omega)).trans (((bcell k5).1 w4.heap.size 1 (by simp)).trans (by simp [go_sem, ↓IntWalk.iteOmega])), ((bcell h).1 w4.heap.size 2 (by omega)).trans (((bcell k5).1 w4.heap.size 2 (by simp)).trans (by simp [go_sem, ↓IntWalk.iteOmega])), ((bcell h).1 w5.heap.size 0 (by omega)).trans (by rw [← hWB]; simp [go_sem, ↓IntWalk.iteOmega]), ((bcell h).1 w5.heap.size 1 (by omega)).trans (by rw [← hWB]; simp [go_sem, ↓IntWalk.iteOmega]), ((bcell h).1 w5.heap.size 2 (by omega)).trans (by rw [← hWB]; simp [go_sem, ↓IntWalk.iteOmega]), run_string_own (P := Try.prog) (src := 25) (dst := 9) (W := key3 x0 x1 x2) Try.underlying25 Try.underlying5 Try.underlying9 ((Ho12.out).ext (k25.trans (h.mono k25.size))), run_string_own (P := Try.prog) (src := 25) (dst := 9) (W := key3 y0 y1 y2) Try.underlying25 Try.underlying5 Try.underlying9 ((Ho2.out).ext (k25.trans (h.mono k25.size)))⟩
      have HS := Lib.hid hS
      have HBB := Lib.hid (HB0.out.trans (k05.mono (by omega)))
      rw [hWB]
      clear hS k4 k5 k45 k25 k05 hWB s05 s45 s5 s6 p0 p1 p2 q0 q1 q2 hs3 hs4 hs5
      have hcmp := Hcmp.out
      have hBc : Below (WB).heap.size WB (WB).drew := ext_drew _
      refine wp_region_held_drew (S := (fun w' => w'.cell? ⟨w.heap.size, 0, none⟩ = some (.int .u32 (x0 : Nat)) ∧ w'.cell? ⟨w.heap.size, 1, none⟩ = some (.int .u32 (x1 : Nat)) ∧ w'.cell? ⟨w.heap.size, 2, none⟩ = some (.int .u32 (x2 : Nat)) ∧ w'.cell? ⟨w.heap.size + 1, 0, none⟩ = some (.int .u32 (y0 : Nat)) ∧ w'.cell? ⟨w.heap.size + 1, 1, none⟩ = some (.int .u32 (y1 : Nat)) ∧ w'.cell? ⟨w.heap.size + 1, 2, none⟩ = some (.int .u32 (y2 : Nat)) ∧ w'.cell? ⟨w3.heap.size, 0, none⟩ = some (.int .u32 (x0 : Nat)) ∧ w'.cell? ⟨w3.heap.size, 1, none⟩ = some (.int .u32 (x1 : Nat)) ∧ w'.cell? ⟨w3.heap.size, 2, none⟩ = some (.int .u32 (x2 : Nat)) ∧ w'.cell? ⟨w4.heap.size, 0, none⟩ = some (.int .u32 (z0 : Nat)) ∧ w'.cell? ⟨w4.heap.size, 1, none⟩ = some (.int .u32 (z1 : Nat)) ∧ w'.cell? ⟨w4.heap.size, 2, none⟩ = some (.int .u32 (z2 : Nat)) ∧ w'.cell? ⟨w5.heap.size, 0, none⟩ = some (.int .u32 (z0 : Nat)) ∧ w'.cell? ⟨w5.heap.size, 1, none⟩ = some (.int .u32 (z1 : Nat)) ∧ w'.cell? ⟨w5.heap.size, 2, none⟩ = some (.int .u32 (z2 : Nat)) ∧ (convert 25 9 (.slice a1 12 c1)).run Try.prog w' = .ok (.string (bs (key3 x0 x1 x2))) w' ∧ (convert 25 9 (.slice a2 12 c2)).run Try.prog w' = .ok (.string (bs (key3 y0 y1 y2))) w')) (by kernel_rfl) (HS.out _ hBc) (fun hHeld => ?_)
      refine wpAnyH_take (i := 0) (oi := ({ dst := some 38, op := Go.Op.move (Go.Operand.tmp 7), type := 25, pos := "law.go:28", after := #[], guard := none } : Oper)) (v := ?_) rfl (by kernel_rfl) (by kernel_rfl) (by kernel_rfl) (fun _ _ _ h => h) (Or.inl ⟨by rfl, ?_⟩) hHeld ?_
      rotate_left
      · (intro w' hSw; (try dsimp only at hSw); go_simp; try (with_reducible rfl))
      try simp only [Act.put, List.setIfInBounds_toArray, List.set_cons_zero, List.set_cons_succ]
      refine wpAnyH_take (i := 1) (oi := ({ dst := some 39, op := Go.Op.convert 25 9 (Go.Operand.tmp 38), type := 9, pos := "law.go:28", after := #[{ on := 0, ground := Go.Ground.data }], guard := none } : Oper)) (v := ?_) rfl (by kernel_rfl) (by kernel_rfl) (by kernel_rfl) (fun _ _ _ h => h) (Or.inl ⟨by rfl, ?_⟩) hHeld ?_
      rotate_left
      · (intro w' hSw; (try dsimp only at hSw); go_simp; try (with_reducible rfl))
      try simp only [Act.put, List.setIfInBounds_toArray, List.set_cons_zero, List.set_cons_succ]
      refine wpAnyH_take (i := 2) (oi := ({ dst := some 40, op := Go.Op.load 24 (Go.Operand.tmp 3), type := 24, pos := "law.go:28", after := #[], guard := none } : Oper)) (v := ?_) rfl (by kernel_rfl) (by kernel_rfl) (by kernel_rfl) (fun _ _ _ h => h) (Or.inl ⟨by rfl, ?_⟩) hHeld ?_
      rotate_left
      · (intro w' hSw; (try dsimp only at hSw); go_simp; try (with_reducible rfl))
      try simp only [Act.put, List.setIfInBounds_toArray, List.set_cons_zero, List.set_cons_succ]
      refine wpAnyH_ready (rs := [3]) (by kernel_rfl) (by simp) ?_
      refine AllReadyH.cons (o := ({ dst := some 41, op := Go.Op.call { callee := Go.Callee.value (Go.Operand.func 18), args := #[Go.Operand.tmp 40], argTypes := #[24] }, type := 25, pos := "law.go:28", after := #[{ on := 2, ground := Go.Ground.data }], guard := none } : Oper)) rfl (fun K hK => ?_) AllReadyH.nil
      go_simp
      go_at_call 18
      refine ((HRk.out _)).mono ?_
      rintro e w6 ⟨a6, c6, g6, rfl, ho6, hg6, hB6⟩
      go_wp2_with fail
      have hcv : (convert 25 9 (.slice a6 12 c6)).run Try.prog w6 = .ok (.string (bs (key3 x0 x1 x2))) w6 := run_string_own (P := Try.prog) (src := 25) (dst := 9) (W := key3 x0 x1 x2) Try.underlying25 Try.underlying5 Try.underlying9 ho6
      have hBc := hBc.trans ((hB6).mono hBc.size)
      refine hK.out _ _ (HS.out _ hBc) (fun hHeld => ?_)
      clear hK K
      try simp only [Act.put, List.setIfInBounds_toArray, List.set_cons_zero, List.set_cons_succ]
      refine wpAnyH_ready (rs := [4]) (by kernel_rfl) (by simp) ?_
      refine AllReadyH.cons (o := ({ dst := some 42, op := Go.Op.convert 25 9 (Go.Operand.tmp 41), type := 9, pos := "law.go:28", after := #[{ on := 3, ground := Go.Ground.data }], guard := none } : Oper)) rfl (fun K hK => ?_) AllReadyH.nil
      go_simp
      refine hK.out _ _ (HS.out _ hBc) (fun hHeld => ?_)
      clear hK K hcv
      try simp only [Act.put, List.setIfInBounds_toArray, List.set_cons_zero, List.set_cons_succ]
      refine wpAnyH_take (i := 5) (oi := ({ dst := some 43, op := Go.Op.binOp Go.BinOp.eql 9 (Go.Operand.tmp 39) (Go.Operand.tmp 42) 9, type := 4, pos := "law.go:28", after := #[{ on := 1, ground := Go.Ground.data }, { on := 4, ground := Go.Ground.data }], guard := none } : Oper)) (v := ?_) rfl (by kernel_rfl) (by kernel_rfl) (by kernel_rfl) (fun _ _ _ h => h) (Or.inl ⟨by rfl, ?_⟩) hHeld ?_
      rotate_left
      · (intro w' hSw; (try dsimp only at hSw); go_simp; try (with_reducible rfl))
      try simp only [Act.put, List.setIfInBounds_toArray, List.set_cons_zero, List.set_cons_succ]
      refine wpAnyH_take (i := 6) (oi := ({ dst := some 44, op := Go.Op.move (Go.Operand.tmp 43), type := 4, pos := "law.go:28", after := #[{ on := 5, ground := Go.Ground.data }, { on := 3, ground := Go.Ground.chain }], guard := none } : Oper)) (v := ?_) rfl (by kernel_rfl) (by kernel_rfl) (by kernel_rfl) (fun _ _ _ h => h) (Or.inl ⟨by rfl, ?_⟩) hHeld ?_
      rotate_left
      · (intro w' hSw; (try dsimp only at hSw); go_simp; try (with_reducible rfl))
      try simp only [Act.put, List.setIfInBounds_toArray, List.set_cons_zero, List.set_cons_succ]
      refine wpAnyH_take (i := 7) (oi := ({ dst := some 45, op := Go.Op.load 24 (Go.Operand.tmp 9), type := 24, pos := "law.go:28", after := #[{ on := 6, ground := Go.Ground.guard }], guard := some (6, true) } : Oper)) (v := ?_) rfl (by kernel_rfl) (by kernel_rfl) (by kernel_rfl) (fun _ _ _ h => h) (Or.inl ⟨by rfl, ?_⟩) hHeld ?_
      rotate_left
      · (intro w' hSw; (try dsimp only at hSw); go_simp; try (with_reducible rfl))
      try simp only [Act.put, List.setIfInBounds_toArray, List.set_cons_zero, List.set_cons_succ]
      refine wpAnyH_take (i := 8) (oi := ({ dst := some 46, op := Go.Op.load 24 (Go.Operand.tmp 3), type := 24, pos := "law.go:28", after := #[{ on := 6, ground := Go.Ground.guard }], guard := some (6, true) } : Oper)) (v := ?_) rfl (by kernel_rfl) (by kernel_rfl) (by kernel_rfl) (fun _ _ _ h => h) (Or.inl ⟨by rfl, ?_⟩) hHeld ?_
      rotate_left
      · (intro w' hSw; (try dsimp only at hSw); go_simp; try (with_reducible rfl))
      try simp only [Act.put, List.setIfInBounds_toArray, List.set_cons_zero, List.set_cons_succ]
      refine wpAnyH_take (i := 9) (oi := ({ dst := some 47, op := Go.Op.binOp Go.BinOp.eql 24 (Go.Operand.tmp 45) (Go.Operand.tmp 46) 24, type := 4, pos := "law.go:28", after := #[{ on := 7, ground := Go.Ground.data }, { on := 8, ground := Go.Ground.data }, { on := 6, ground := Go.Ground.guard }], guard := some (6, true) } : Oper)) (v := ?_) rfl (by kernel_rfl) (by kernel_rfl) (by kernel_rfl) (fun _ _ _ h => h) (Or.inl ⟨by rfl, ?_⟩) hHeld ?_
      rotate_left
      · (intro w' hSw; (try dsimp only at hSw); go_simp; try (with_reducible rfl))
      try simp only [Act.put, List.setIfInBounds_toArray, List.set_cons_zero, List.set_cons_succ]
      refine wpAnyH_take (i := 10) (oi := ({ dst := some 48, op := Go.Op.pick (Go.Operand.tmp 44) (Go.Operand.tmp 47) (Go.Operand.const (Go.Value.bool false)), type := 4, pos := "law.go:28", after := #[{ on := 6, ground := Go.Ground.data }, { on := 9, ground := Go.Ground.data }], guard := none } : Oper)) (v := ?_) rfl (by kernel_rfl) (by kernel_rfl) (by kernel_rfl) (fun _ _ _ h => h) (Or.inl ⟨by rfl, ?_⟩) hHeld ?_
      rotate_left
      · (intro w' hSw; (try dsimp only at hSw); go_simp; try (with_reducible rfl))
      try simp only [Act.put, List.setIfInBounds_toArray, List.set_cons_zero, List.set_cons_succ]
      refine wpAnyH_take (i := 11) (oi := ({ dst := some 49, op := Go.Op.move (Go.Operand.tmp 48), type := 4, pos := "law.go:28", after := #[{ on := 10, ground := Go.Ground.data }, { on := 6, ground := Go.Ground.chain }], guard := none } : Oper)) (v := ?_) rfl (by kernel_rfl) (by kernel_rfl) (by kernel_rfl) (fun _ _ _ h => h) (Or.inl ⟨by rfl, ?_⟩) hHeld ?_
      rotate_left
      · (intro w' hSw; (try dsimp only at hSw); go_simp; try (with_reducible rfl))
      try simp only [Act.put, List.setIfInBounds_toArray, List.set_cons_zero, List.set_cons_succ]
      refine wpAnyH_take (i := 12) (oi := ({ dst := some 50, op := Go.Op.move (Go.Operand.tmp 10), type := 28, pos := "law.go:28", after := #[{ on := 11, ground := Go.Ground.guard }], guard := some (11, true) } : Oper)) (v := ?_) rfl (by kernel_rfl) (by kernel_rfl) (by kernel_rfl) (fun _ _ _ h => h) (Or.inl ⟨by rfl, ?_⟩) hHeld ?_
      rotate_left
      · (intro w' hSw; (try dsimp only at hSw); go_simp; try (with_reducible rfl))
      try simp only [Act.put, List.setIfInBounds_toArray, List.set_cons_zero, List.set_cons_succ]
      refine wpAnyH_take (i := 13) (oi := ({ dst := some 51, op := Go.Op.binOp Go.BinOp.eql 28 (Go.Operand.tmp 50) (Go.Operand.const (Go.Value.int Go.IntKind.i64 0)) 28, type := 4, pos := "law.go:28", after := #[{ on := 12, ground := Go.Ground.data }, { on := 11, ground := Go.Ground.guard }], guard := some (11, true) } : Oper)) (v := ?_) rfl (by kernel_rfl) (by kernel_rfl) (by kernel_rfl) (fun _ _ _ h => h) (Or.inl ⟨by rfl, ?_⟩) hHeld ?_
      rotate_left
      · (intro w' hSw; (try dsimp only at hSw); go_simp; try (with_reducible rfl))
      try simp only [Act.put, List.setIfInBounds_toArray, List.set_cons_zero, List.set_cons_succ]
      refine wpAnyH_take (i := 14) (oi := ({ dst := some 52, op := Go.Op.pick (Go.Operand.tmp 49) (Go.Operand.tmp 51) (Go.Operand.const (Go.Value.bool false)), type := 4, pos := "law.go:28", after := #[{ on := 11, ground := Go.Ground.data }, { on := 13, ground := Go.Ground.data }], guard := none } : Oper)) (v := ?_) rfl (by kernel_rfl) (by kernel_rfl) (by kernel_rfl) (fun _ _ _ h => h) (Or.inl ⟨by rfl, ?_⟩) hHeld ?_
      rotate_left
      · (intro w' hSw; (try dsimp only at hSw); go_simp; try (with_reducible rfl))
      try simp only [Act.put, List.setIfInBounds_toArray, List.set_cons_zero, List.set_cons_succ]
      refine wpAnyH_take (i := 15) (oi := ({ dst := some 53, op := Go.Op.move (Go.Operand.tmp 52), type := 4, pos := "law.go:28", after := #[{ on := 14, ground := Go.Ground.data }, { on := 11, ground := Go.Ground.chain }], guard := none } : Oper)) (v := ?_) rfl (by kernel_rfl) (by kernel_rfl) (by kernel_rfl) (fun _ _ _ h => h) (Or.inl ⟨by rfl, ?_⟩) hHeld ?_
      rotate_left
      · (intro w' hSw; (try dsimp only at hSw); go_simp; try (with_reducible rfl))
      try simp only [Act.put, List.setIfInBounds_toArray, List.set_cons_zero, List.set_cons_succ]
      refine wpAnyH_take (i := 16) (oi := ({ dst := some 54, op := Go.Op.load 24 (Go.Operand.tmp 11), type := 24, pos := "law.go:28", after := #[{ on := 15, ground := Go.Ground.guard }], guard := some (15, true) } : Oper)) (v := ?_) rfl (by kernel_rfl) (by kernel_rfl) (by kernel_rfl) (fun _ _ _ h => h) (Or.inl ⟨by rfl, ?_⟩) hHeld ?_
      rotate_left
      · (intro w' hSw; (try dsimp only at hSw); go_simp; try (with_reducible rfl))
      try simp only [Act.put, List.setIfInBounds_toArray, List.set_cons_zero, List.set_cons_succ]
      refine wpAnyH_take (i := 17) (oi := ({ dst := some 55, op := Go.Op.load 24 (Go.Operand.tmp 13), type := 24, pos := "law.go:28", after := #[{ on := 15, ground := Go.Ground.guard }], guard := some (15, true) } : Oper)) (v := ?_) rfl (by kernel_rfl) (by kernel_rfl) (by kernel_rfl) (fun _ _ _ h => h) (Or.inl ⟨by rfl, ?_⟩) hHeld ?_
      rotate_left
      · (intro w' hSw; (try dsimp only at hSw); go_simp; try (with_reducible rfl))
      try simp only [Act.put, List.setIfInBounds_toArray, List.set_cons_zero, List.set_cons_succ]
      refine wpAnyH_take (i := 18) (oi := ({ dst := some 56, op := Go.Op.binOp Go.BinOp.eql 24 (Go.Operand.tmp 54) (Go.Operand.tmp 55) 24, type := 4, pos := "law.go:28", after := #[{ on := 16, ground := Go.Ground.data }, { on := 17, ground := Go.Ground.data }, { on := 15, ground := Go.Ground.guard }], guard := some (15, true) } : Oper)) (v := ?_) rfl (by kernel_rfl) (by kernel_rfl) (by kernel_rfl) (fun _ _ _ h => h) (Or.inl ⟨by rfl, ?_⟩) hHeld ?_
      rotate_left
      · (intro w' hSw; (try dsimp only at hSw); go_simp; try (with_reducible rfl))
      try simp only [Act.put, List.setIfInBounds_toArray, List.set_cons_zero, List.set_cons_succ]
      refine wpAnyH_take (i := 19) (oi := ({ dst := some 57, op := Go.Op.pick (Go.Operand.tmp 53) (Go.Operand.tmp 56) (Go.Operand.const (Go.Value.bool false)), type := 4, pos := "law.go:28", after := #[{ on := 15, ground := Go.Ground.data }, { on := 18, ground := Go.Ground.data }], guard := none } : Oper)) (v := ?_) rfl (by kernel_rfl) (by kernel_rfl) (by kernel_rfl) (fun _ _ _ h => h) (Or.inl ⟨by rfl, ?_⟩) hHeld ?_
      rotate_left
      · (intro w' hSw; (try dsimp only at hSw); go_simp; try (with_reducible rfl))
      try simp only [Act.put, List.setIfInBounds_toArray, List.set_cons_zero, List.set_cons_succ]
      refine wpAnyH_take (i := 20) (oi := ({ dst := some 58, op := Go.Op.move (Go.Operand.tmp 57), type := 4, pos := "law.go:28", after := #[{ on := 19, ground := Go.Ground.data }, { on := 15, ground := Go.Ground.chain }], guard := none } : Oper)) (v := ?_) rfl (by kernel_rfl) (by kernel_rfl) (by kernel_rfl) (fun _ _ _ h => h) (Or.inl ⟨by rfl, ?_⟩) hHeld ?_
      rotate_left
      · (intro w' hSw; (try dsimp only at hSw); go_simp; try (with_reducible rfl))
      try simp only [Act.put, List.setIfInBounds_toArray, List.set_cons_zero, List.set_cons_succ]
      refine wpAnyH_take (i := 21) (oi := ({ dst := some 59, op := Go.Op.move (Go.Operand.tmp 12), type := 28, pos := "law.go:28", after := #[{ on := 20, ground := Go.Ground.guard }], guard := some (20, true) } : Oper)) (v := ?_) rfl (by kernel_rfl) (by kernel_rfl) (by kernel_rfl) (fun _ _ _ h => h) (Or.inl ⟨by rfl, ?_⟩) hHeld ?_
      rotate_left
      · (intro w' hSw; (try dsimp only at hSw); go_simp; try (with_reducible rfl))
      try simp only [Act.put, List.setIfInBounds_toArray, List.set_cons_zero, List.set_cons_succ]
      refine wpAnyH_take (i := 22) (oi := ({ dst := some 60, op := Go.Op.binOp Go.BinOp.eql 28 (Go.Operand.tmp 59) (Go.Operand.const (Go.Value.int Go.IntKind.i64 0)) 28, type := 4, pos := "law.go:28", after := #[{ on := 21, ground := Go.Ground.data }, { on := 20, ground := Go.Ground.guard }], guard := some (20, true) } : Oper)) (v := ?_) rfl (by kernel_rfl) (by kernel_rfl) (by kernel_rfl) (fun _ _ _ h => h) (Or.inl ⟨by rfl, ?_⟩) hHeld ?_
      rotate_left
      · (intro w' hSw; (try dsimp only at hSw); go_simp; try (with_reducible rfl))
      try simp only [Act.put, List.setIfInBounds_toArray, List.set_cons_zero, List.set_cons_succ]
      refine wpAnyH_take (i := 23) (oi := ({ dst := some 61, op := Go.Op.move (Go.Operand.tmp 60), type := 4, pos := "law.go:28", after := #[{ on := 22, ground := Go.Ground.data }, { on := 20, ground := Go.Ground.chain }, { on := 20, ground := Go.Ground.guard }], guard := some (20, true) } : Oper)) (v := ?_) rfl (by kernel_rfl) (by kernel_rfl) (by kernel_rfl) (fun _ _ _ h => h) (Or.inl ⟨by rfl, ?_⟩) hHeld ?_
      rotate_left
      · (intro w' hSw; (try dsimp only at hSw); go_simp; try (with_reducible rfl))
      try simp only [Act.put, List.setIfInBounds_toArray, List.set_cons_zero, List.set_cons_succ]
      refine wpAnyH_take (i := 24) (oi := ({ dst := some 62, op := Go.Op.move (Go.Operand.tmp 14), type := 4, pos := "law.go:28", after := #[{ on := 23, ground := Go.Ground.guard }], guard := some (23, true) } : Oper)) (v := ?_) rfl (by kernel_rfl) (by kernel_rfl) (by kernel_rfl) (fun _ _ _ h => h) (Or.inl ⟨by rfl, ?_⟩) hHeld ?_
      rotate_left
      · (intro w' hSw; (try dsimp only at hSw); go_simp; try (with_reducible rfl))
      try simp only [Act.put, List.setIfInBounds_toArray, List.set_cons_zero, List.set_cons_succ]
      refine wpAnyH_take (i := 25) (oi := ({ dst := some 63, op := Go.Op.pick (Go.Operand.tmp 61) (Go.Operand.tmp 62) (Go.Operand.const (Go.Value.bool false)), type := 4, pos := "law.go:28", after := #[{ on := 23, ground := Go.Ground.data }, { on := 24, ground := Go.Ground.data }, { on := 20, ground := Go.Ground.guard }], guard := some (20, true) } : Oper)) (v := ?_) rfl (by kernel_rfl) (by kernel_rfl) (by kernel_rfl) (fun _ _ _ h => h) (Or.inl ⟨by rfl, ?_⟩) hHeld ?_
      rotate_left
      · (intro w' hSw; (try dsimp only at hSw); go_simp; try (with_reducible rfl))
      try simp only [Act.put, List.setIfInBounds_toArray, List.set_cons_zero, List.set_cons_succ]
      refine wpAnyH_take (i := 26) (oi := ({ dst := some 64, op := Go.Op.move (Go.Operand.tmp 63), type := 4, pos := "law.go:28", after := #[{ on := 25, ground := Go.Ground.data }, { on := 23, ground := Go.Ground.chain }, { on := 20, ground := Go.Ground.guard }], guard := some (20, true) } : Oper)) (v := ?_) rfl (by kernel_rfl) (by kernel_rfl) (by kernel_rfl) (fun _ _ _ h => h) (Or.inl ⟨by rfl, ?_⟩) hHeld ?_
      rotate_left
      · (intro w' hSw; (try dsimp only at hSw); go_simp; try (with_reducible rfl))
      try simp only [Act.put, List.setIfInBounds_toArray, List.set_cons_zero, List.set_cons_succ]
      refine wpAnyH_take (i := 27) (oi := ({ dst := some 65, op := Go.Op.move (Go.Operand.tmp 12), type := 28, pos := "law.go:28", after := #[{ on := 26, ground := Go.Ground.guard }], guard := some (26, false) } : Oper)) (v := undef) rfl (by kernel_rfl) (by kernel_rfl) (by kernel_rfl) (fun _ _ _ h => h) (Or.inr ⟨by rfl, rfl⟩) hHeld ?_
      try simp only [Act.put, List.setIfInBounds_toArray, List.set_cons_zero, List.set_cons_succ]
      refine wpAnyH_take (i := 28) (oi := ({ dst := some 66, op := Go.Op.binOp Go.BinOp.eql 28 (Go.Operand.tmp 65) (Go.Operand.const (Go.Value.int Go.IntKind.i64 3)) 28, type := 4, pos := "law.go:28", after := #[{ on := 27, ground := Go.Ground.data }, { on := 26, ground := Go.Ground.guard }], guard := some (26, false) } : Oper)) (v := undef) rfl (by kernel_rfl) (by kernel_rfl) (by kernel_rfl) (fun _ _ _ h => h) (Or.inr ⟨by rfl, rfl⟩) hHeld ?_
      try simp only [Act.put, List.setIfInBounds_toArray, List.set_cons_zero, List.set_cons_succ]
      refine wpAnyH_take (i := 29) (oi := ({ dst := some 67, op := Go.Op.move (Go.Operand.tmp 66), type := 4, pos := "law.go:28", after := #[{ on := 28, ground := Go.Ground.data }, { on := 26, ground := Go.Ground.chain }, { on := 26, ground := Go.Ground.guard }], guard := some (26, false) } : Oper)) (v := undef) rfl (by kernel_rfl) (by kernel_rfl) (by kernel_rfl) (fun _ _ _ h => h) (Or.inr ⟨by rfl, rfl⟩) hHeld ?_
      try simp only [Act.put, List.setIfInBounds_toArray, List.set_cons_zero, List.set_cons_succ]
      refine wpAnyH_take (i := 30) (oi := ({ dst := some 68, op := Go.Op.move (Go.Operand.tmp 14), type := 4, pos := "law.go:28", after := #[{ on := 29, ground := Go.Ground.guard }], guard := some (29, true) } : Oper)) (v := undef) rfl (by kernel_rfl) (by kernel_rfl) (by kernel_rfl) (fun _ _ _ h => h) (Or.inr ⟨by rfl, rfl⟩) hHeld ?_
      try simp only [Act.put, List.setIfInBounds_toArray, List.set_cons_zero, List.set_cons_succ]
      refine wpAnyH_take (i := 31) (oi := ({ dst := some 69, op := Go.Op.unOp Go.UnOp.not 4 (Go.Operand.tmp 68), type := 4, pos := "law.go:28", after := #[{ on := 30, ground := Go.Ground.data }, { on := 29, ground := Go.Ground.guard }], guard := some (29, true) } : Oper)) (v := undef) rfl (by kernel_rfl) (by kernel_rfl) (by kernel_rfl) (fun _ _ _ h => h) (Or.inr ⟨by rfl, rfl⟩) hHeld ?_
      try simp only [Act.put, List.setIfInBounds_toArray, List.set_cons_zero, List.set_cons_succ]
      refine wpAnyH_take (i := 32) (oi := ({ dst := some 70, op := Go.Op.pick (Go.Operand.tmp 67) (Go.Operand.tmp 69) (Go.Operand.const (Go.Value.bool false)), type := 4, pos := "law.go:28", after := #[{ on := 29, ground := Go.Ground.data }, { on := 31, ground := Go.Ground.data }, { on := 26, ground := Go.Ground.guard }], guard := some (26, false) } : Oper)) (v := undef) rfl (by kernel_rfl) (by kernel_rfl) (by kernel_rfl) (fun _ _ _ h => h) (Or.inr ⟨by rfl, rfl⟩) hHeld ?_
      try simp only [Act.put, List.setIfInBounds_toArray, List.set_cons_zero, List.set_cons_succ]
      refine wpAnyH_take (i := 33) (oi := ({ dst := some 71, op := Go.Op.pick (Go.Operand.tmp 64) (Go.Operand.const (Go.Value.bool true)) (Go.Operand.tmp 70), type := 4, pos := "law.go:28", after := #[{ on := 26, ground := Go.Ground.data }, { on := 32, ground := Go.Ground.data }, { on := 20, ground := Go.Ground.guard }], guard := some (20, true) } : Oper)) (v := ?_) rfl (by kernel_rfl) (by kernel_rfl) (by kernel_rfl) (fun _ _ _ h => h) (Or.inl ⟨by rfl, ?_⟩) hHeld ?_
      rotate_left
      · (intro w' hSw; (try dsimp only at hSw); go_simp; try (with_reducible rfl))
      try simp only [Act.put, List.setIfInBounds_toArray, List.set_cons_zero, List.set_cons_succ]
      refine wpAnyH_take (i := 34) (oi := ({ dst := some 72, op := Go.Op.pick (Go.Operand.tmp 58) (Go.Operand.tmp 71) (Go.Operand.const (Go.Value.bool false)), type := 4, pos := "law.go:28", after := #[{ on := 20, ground := Go.Ground.data }, { on := 33, ground := Go.Ground.data }], guard := none } : Oper)) (v := ?_) rfl (by kernel_rfl) (by kernel_rfl) (by kernel_rfl) (fun _ _ _ h => h) (Or.inl ⟨by rfl, ?_⟩) hHeld ?_
      rotate_left
      · (intro w' hSw; (try dsimp only at hSw); go_simp; try (with_reducible rfl))
      try simp only [Act.put, List.setIfInBounds_toArray, List.set_cons_zero, List.set_cons_succ]
      refine wpAnyH_take (i := 35) (oi := ({ dst := some 73, op := Go.Op.move (Go.Operand.tmp 72), type := 4, pos := "law.go:28", after := #[{ on := 34, ground := Go.Ground.data }, { on := 29, ground := Go.Ground.chain }], guard := none } : Oper)) (v := ?_) rfl (by kernel_rfl) (by kernel_rfl) (by kernel_rfl) (fun _ _ _ h => h) (Or.inl ⟨by rfl, ?_⟩) hHeld ?_
      rotate_left
      · (intro w' hSw; (try dsimp only at hSw); go_simp; try (with_reducible rfl))
      try simp only [Act.put, List.setIfInBounds_toArray, List.set_cons_zero, List.set_cons_succ]
      refine wpAnyH_take (i := 36) (oi := ({ dst := some 74, op := Go.Op.move (Go.Operand.tmp 7), type := 25, pos := "law.go:28", after := #[{ on := 35, ground := Go.Ground.guard }], guard := some (35, true) } : Oper)) (v := ?_) rfl (by kernel_rfl) (by kernel_rfl) (by kernel_rfl) (fun _ _ _ h => h) (Or.inl ⟨by rfl, ?_⟩) hHeld ?_
      rotate_left
      · (intro w' hSw; (try dsimp only at hSw); go_simp; try (with_reducible rfl))
      try simp only [Act.put, List.setIfInBounds_toArray, List.set_cons_zero, List.set_cons_succ]
      refine wpAnyH_take (i := 37) (oi := ({ dst := some 75, op := Go.Op.convert 25 9 (Go.Operand.tmp 74), type := 9, pos := "law.go:28", after := #[{ on := 36, ground := Go.Ground.data }, { on := 35, ground := Go.Ground.guard }], guard := some (35, true) } : Oper)) (v := ?_) rfl (by kernel_rfl) (by kernel_rfl) (by kernel_rfl) (fun _ _ _ h => h) (Or.inl ⟨by rfl, ?_⟩) hHeld ?_
      rotate_left
      · (intro w' hSw; (try dsimp only at hSw); go_simp; try (with_reducible rfl))
      try simp only [Act.put, List.setIfInBounds_toArray, List.set_cons_zero, List.set_cons_succ]
      refine wpAnyH_take (i := 38) (oi := ({ dst := some 76, op := Go.Op.move (Go.Operand.tmp 8), type := 25, pos := "law.go:28", after := #[{ on := 35, ground := Go.Ground.guard }], guard := some (35, true) } : Oper)) (v := ?_) rfl (by kernel_rfl) (by kernel_rfl) (by kernel_rfl) (fun _ _ _ h => h) (Or.inl ⟨by rfl, ?_⟩) hHeld ?_
      rotate_left
      · (intro w' hSw; (try dsimp only at hSw); go_simp; try (with_reducible rfl))
      try simp only [Act.put, List.setIfInBounds_toArray, List.set_cons_zero, List.set_cons_succ]
      refine wpAnyH_take (i := 39) (oi := ({ dst := some 77, op := Go.Op.convert 25 9 (Go.Operand.tmp 76), type := 9, pos := "law.go:28", after := #[{ on := 38, ground := Go.Ground.data }, { on := 35, ground := Go.Ground.guard }], guard := some (35, true) } : Oper)) (v := ?_) rfl (by kernel_rfl) (by kernel_rfl) (by kernel_rfl) (fun _ _ _ h => h) (Or.inl ⟨by rfl, ?_⟩) hHeld ?_
      rotate_left
      · (intro w' hSw; (try dsimp only at hSw); go_simp; try (with_reducible rfl))
      try simp only [Act.put, List.setIfInBounds_toArray, List.set_cons_zero, List.set_cons_succ]
      refine wpAnyH_take (i := 40) (oi := ({ dst := some 78, op := Go.Op.binOp Go.BinOp.lss 9 (Go.Operand.tmp 75) (Go.Operand.tmp 77) 9, type := 4, pos := "law.go:28", after := #[{ on := 37, ground := Go.Ground.data }, { on := 39, ground := Go.Ground.data }, { on := 35, ground := Go.Ground.guard }], guard := some (35, true) } : Oper)) (v := ?_) rfl (by kernel_rfl) (by kernel_rfl) (by kernel_rfl) (fun _ _ _ h => h) (Or.inl ⟨by rfl, ?_⟩) hHeld ?_
      rotate_left
      · (intro w' hSw; (try dsimp only at hSw); go_simp; try (with_reducible rfl))
      try simp only [Act.put, List.setIfInBounds_toArray, List.set_cons_zero, List.set_cons_succ]
      refine wpAnyH_take (i := 41) (oi := ({ dst := some 79, op := Go.Op.load 24 (Go.Operand.tmp 3), type := 24, pos := "law.go:28", after := #[{ on := 35, ground := Go.Ground.guard }], guard := some (35, true) } : Oper)) (v := ?_) rfl (by kernel_rfl) (by kernel_rfl) (by kernel_rfl) (fun _ _ _ h => h) (Or.inl ⟨by rfl, ?_⟩) hHeld ?_
      rotate_left
      · (intro w' hSw; (try dsimp only at hSw); go_simp; try (with_reducible rfl))
      try simp only [Act.put, List.setIfInBounds_toArray, List.set_cons_zero, List.set_cons_succ]
      refine wpAnyH_take (i := 42) (oi := ({ dst := some 80, op := Go.Op.load 24 (Go.Operand.tmp 4), type := 24, pos := "law.go:28", after := #[{ on := 35, ground := Go.Ground.guard }], guard := some (35, true) } : Oper)) (v := ?_) rfl (by kernel_rfl) (by kernel_rfl) (by kernel_rfl) (fun _ _ _ h => h) (Or.inl ⟨by rfl, ?_⟩) hHeld ?_
      rotate_left
      · (intro w' hSw; (try dsimp only at hSw); go_simp; try (with_reducible rfl))
      try simp only [Act.put, List.setIfInBounds_toArray, List.set_cons_zero, List.set_cons_succ]
      refine wpAnyH_ready (rs := [43]) (by kernel_rfl) (by simp) ?_
      refine AllReadyH.cons (o := ({ dst := some 81, op := Go.Op.call { callee := Go.Callee.value (Go.Operand.func 19), args := #[Go.Operand.tmp 79, Go.Operand.tmp 80], argTypes := #[24, 24] }, type := 4, pos := "law.go:28", after := #[{ on := 41, ground := Go.Ground.data }, { on := 42, ground := Go.Ground.data }, { on := 35, ground := Go.Ground.chain }, { on := 35, ground := Go.Ground.guard }], guard := some (35, true) } : Oper)) rfl (fun K hK => ?_) AllReadyH.nil
      go_simp
      go_at_call 19
      refine ((HBl.out _)).mono ?_
      rintro e w6 ⟨rfl, hB6⟩
      go_wp2_with fail
      have hBc := hBc.trans ((hB6).mono hBc.size)
      refine hK.out _ _ (HS.out _ hBc) (fun hHeld => ?_)
      clear hK K
      try simp only [Act.put, List.setIfInBounds_toArray, List.set_cons_zero, List.set_cons_succ]
      refine wpAnyH_take (i := 44) (oi := ({ dst := some 82, op := Go.Op.binOp Go.BinOp.eql 4 (Go.Operand.tmp 78) (Go.Operand.tmp 81) 4, type := 4, pos := "law.go:28", after := #[{ on := 40, ground := Go.Ground.data }, { on := 43, ground := Go.Ground.data }, { on := 35, ground := Go.Ground.guard }], guard := some (35, true) } : Oper)) (v := ?_) rfl (by kernel_rfl) (by kernel_rfl) (by kernel_rfl) (fun _ _ _ h => h) (Or.inl ⟨by rfl, ?_⟩) hHeld ?_
      rotate_left
      · (intro w' hSw; (try dsimp only at hSw); go_simp; try (with_reducible rfl))
      try simp only [Act.put, List.setIfInBounds_toArray, List.set_cons_zero, List.set_cons_succ]
      refine wpAnyH_take (i := 45) (oi := ({ dst := some 83, op := Go.Op.pick (Go.Operand.tmp 73) (Go.Operand.tmp 82) (Go.Operand.const (Go.Value.bool false)), type := 4, pos := "law.go:28", after := #[{ on := 35, ground := Go.Ground.data }, { on := 44, ground := Go.Ground.data }], guard := none } : Oper)) (v := ?_) rfl (by kernel_rfl) (by kernel_rfl) (by kernel_rfl) (fun _ _ _ h => h) (Or.inl ⟨by rfl, ?_⟩) hHeld ?_
      rotate_left
      · (intro w' hSw; (try dsimp only at hSw); go_simp; try (with_reducible rfl))
      try simp only [Act.put, List.setIfInBounds_toArray, List.set_cons_zero, List.set_cons_succ]
      refine wpAnyH_take (i := 46) (oi := ({ dst := some 84, op := Go.Op.move (Go.Operand.tmp 83), type := 4, pos := "law.go:28", after := #[{ on := 45, ground := Go.Ground.data }, { on := 43, ground := Go.Ground.chain }], guard := none } : Oper)) (v := ?_) rfl (by kernel_rfl) (by kernel_rfl) (by kernel_rfl) (fun _ _ _ h => h) (Or.inl ⟨by rfl, ?_⟩) hHeld ?_
      rotate_left
      · (intro w' hSw; (try dsimp only at hSw); go_simp; try (with_reducible rfl))
      try simp only [Act.put, List.setIfInBounds_toArray, List.set_cons_zero, List.set_cons_succ]
      refine wpAnyH_ready (rs := [47]) (by kernel_rfl) (by simp) ?_
      refine AllReadyH.cons (o := ({ dst := some 85, op := Go.Op.call { callee := Go.Callee.value (Go.Operand.func 14), args := #[], argTypes := #[] }, type := 4, pos := "law.go:28", after := #[{ on := 46, ground := Go.Ground.chain }, { on := 46, ground := Go.Ground.guard }], guard := some (46, true) } : Oper)) rfl (fun K hK => ?_) AllReadyH.nil
      go_simp
      go_at_call 14
      refine ((awake14_any _)).mono ?_
      rintro e w6 ⟨rfl, hB6⟩
      go_wp2_with fail
      have hBc := hBc.trans ((hB6).mono hBc.size)
      refine hK.out _ _ (HS.out _ hBc) (fun hHeld => ?_)
      clear hK K
      try simp only [Act.put, List.setIfInBounds_toArray, List.set_cons_zero, List.set_cons_succ]
      refine wpAnyH_take (i := 48) (oi := ({ dst := some 86, op := Go.Op.pick (Go.Operand.tmp 84) (Go.Operand.tmp 85) (Go.Operand.const (Go.Value.bool false)), type := 4, pos := "law.go:28", after := #[{ on := 46, ground := Go.Ground.data }, { on := 47, ground := Go.Ground.data }], guard := none } : Oper)) (v := ?_) rfl (by kernel_rfl) (by kernel_rfl) (by kernel_rfl) (fun _ _ _ h => h) (Or.inl ⟨by rfl, ?_⟩) hHeld ?_
      rotate_left
      · (intro w' hSw; (try dsimp only at hSw); go_simp; try (with_reducible rfl))
      try simp only [Act.put, List.setIfInBounds_toArray, List.set_cons_zero, List.set_cons_succ]
      refine wpAnyH_take (i := 49) (oi := ({ dst := some 6, op := Go.Op.assign (Go.Operand.tmp 86), type := 4, pos := "law.go:28", after := #[{ on := 48, ground := Go.Ground.data }, { on := 47, ground := Go.Ground.chain }, { on := 0, ground := Go.Ground.phase }, { on := 1, ground := Go.Ground.phase }, { on := 2, ground := Go.Ground.phase }, { on := 3, ground := Go.Ground.phase }, { on := 4, ground := Go.Ground.phase }, { on := 5, ground := Go.Ground.phase }, { on := 6, ground := Go.Ground.phase }, { on := 7, ground := Go.Ground.phase }, { on := 8, ground := Go.Ground.phase }, { on := 9, ground := Go.Ground.phase }, { on := 10, ground := Go.Ground.phase }, { on := 11, ground := Go.Ground.phase }, { on := 12, ground := Go.Ground.phase }, { on := 13, ground := Go.Ground.phase }, { on := 14, ground := Go.Ground.phase }, { on := 15, ground := Go.Ground.phase }, { on := 16, ground := Go.Ground.phase }, { on := 17, ground := Go.Ground.phase }, { on := 18, ground := Go.Ground.phase }, { on := 19, ground := Go.Ground.phase }, { on := 20, ground := Go.Ground.phase }, { on := 21, ground := Go.Ground.phase }, { on := 22, ground := Go.Ground.phase }, { on := 23, ground := Go.Ground.phase }, { on := 24, ground := Go.Ground.phase }, { on := 25, ground := Go.Ground.phase }, { on := 26, ground := Go.Ground.phase }, { on := 27, ground := Go.Ground.phase }, { on := 28, ground := Go.Ground.phase }, { on := 29, ground := Go.Ground.phase }, { on := 30, ground := Go.Ground.phase }, { on := 31, ground := Go.Ground.phase }, { on := 32, ground := Go.Ground.phase }, { on := 33, ground := Go.Ground.phase }, { on := 34, ground := Go.Ground.phase }, { on := 35, ground := Go.Ground.phase }, { on := 36, ground := Go.Ground.phase }, { on := 37, ground := Go.Ground.phase }, { on := 38, ground := Go.Ground.phase }, { on := 39, ground := Go.Ground.phase }, { on := 40, ground := Go.Ground.phase }, { on := 41, ground := Go.Ground.phase }, { on := 42, ground := Go.Ground.phase }, { on := 43, ground := Go.Ground.phase }, { on := 44, ground := Go.Ground.phase }, { on := 45, ground := Go.Ground.phase }, { on := 46, ground := Go.Ground.phase }, { on := 47, ground := Go.Ground.phase }, { on := 48, ground := Go.Ground.phase }], guard := none } : Oper)) (v := ?_) rfl (by kernel_rfl) (by kernel_rfl) (by kernel_rfl) (fun _ _ _ h => h) (Or.inl ⟨by rfl, ?_⟩) hHeld ?_
      rotate_left
      · (intro w' hSw; (try dsimp only at hSw); go_simp; try (with_reducible rfl))
      try simp only [Act.put, List.setIfInBounds_toArray, List.set_cons_zero, List.set_cons_succ]
      refine wpAnyH_done (by kernel_rfl) ?_ _
      go_wp2_with fail
      go_ret
      exact ⟨rfl, HBB.out.trans (hBc.mono HBB.out.size)⟩
    · rw [if_neg h12] at hOb
      rw [decide_eq_false h12] at hRb
      have HOb := Lib.hid hOb
      have HRb := Lib.hid hRb
      clear hOb hRb h12
      go_enter Try.func3, Try.ntmps3
      go_wp2_with fail
      obtain ⟨w0, hw0⟩ : ∃ w0, (w.alloc (Obj.cells #[Value.int IntKind.u32 (x0 : Nat), Value.int IntKind.u32 (x1 : Nat), Value.int IntKind.u32 (x2 : Nat)] 24)).alloc (Obj.cells #[Value.int IntKind.u32 (y0 : Nat), Value.int IntKind.u32 (y1 : Nat), Value.int IntKind.u32 (y2 : Nat)] 24) = w0 := ⟨_, rfl⟩
      have hB0 : Below w.heap.size w w0 := by rw [← hw0]; exact (ext_alloc w _).alloc (by simp) _
      have hs0 : w.heap.size + 2 ≤ w0.heap.size := by rw [← hw0]; simp
      have p0 : w0.cell? ⟨w.heap.size, 0, none⟩ = some (.int .u32 (x0 : Nat)) := by rw [← hw0]; simp [go_sem, ↓IntWalk.iteOmega]
      have p1 : w0.cell? ⟨w.heap.size, 1, none⟩ = some (.int .u32 (x1 : Nat)) := by rw [← hw0]; simp [go_sem, ↓IntWalk.iteOmega]
      have p2 : w0.cell? ⟨w.heap.size, 2, none⟩ = some (.int .u32 (x2 : Nat)) := by rw [← hw0]; simp [go_sem, ↓IntWalk.iteOmega]
      have q0 : w0.cell? ⟨w.heap.size + 1, 0, none⟩ = some (.int .u32 (y0 : Nat)) := by rw [← hw0]; simp [go_sem, ↓IntWalk.iteOmega]
      have q1 : w0.cell? ⟨w.heap.size + 1, 1, none⟩ = some (.int .u32 (y1 : Nat)) := by rw [← hw0]; simp [go_sem, ↓IntWalk.iteOmega]
      have q2 : w0.cell? ⟨w.heap.size + 1, 2, none⟩ = some (.int .u32 (y2 : Nat)) := by rw [← hw0]; simp [go_sem, ↓IntWalk.iteOmega]
      rw [hw0]
      have HB0 := Lib.hid hB0
      clear hw0 hB0
      go_region_held3 (fun w' => w'.cell? ⟨w.heap.size, 0, none⟩ = some (.int .u32 (x0 : Nat)) ∧ w'.cell? ⟨w.heap.size, 1, none⟩ = some (.int .u32 (x1 : Nat)) ∧ w'.cell? ⟨w.heap.size, 2, none⟩ = some (.int .u32 (x2 : Nat)) ∧ w'.cell? ⟨w.heap.size + 1, 0, none⟩ = some (.int .u32 (y0 : Nat)) ∧ w'.cell? ⟨w.heap.size + 1, 1, none⟩ = some (.int .u32 (y1 : Nat)) ∧ w'.cell? ⟨w.heap.size + 1, 2, none⟩ = some (.int .u32 (y2 : Nat)))
        (first | exact ⟨p0, p1, p2, q0, q1, q2⟩ | exact ⟨HP1.out.1, HP1.out.2.1, HP1.out.2.2.1, HP1.out.2.2.2.1, HP1.out.2.2.2.2.1, HP1.out.2.2.2.2.2⟩ | exact ⟨HP2.out.1, HP2.out.2.1, HP2.out.2.2.1, HP2.out.2.2.2.1, HP2.out.2.2.2.2.1, HP2.out.2.2.2.2.2⟩)
        (first
          | (go_at_call 15; (with_reducible refine (HX.out _).mono ?_); rintro e w1 ⟨a1, c1, g1, rfl, ho1, hg1, hB1⟩; have hB1' : Below w0.heap.size w0 w1 := (ext_drew w0).trans hB1; have HP1 := Lib.hid (And.intro (((bcell hB1').1 w.heap.size 0 (by omega)).trans p0) (And.intro (((bcell hB1').1 w.heap.size 1 (by omega)).trans p1) (And.intro (((bcell hB1').1 w.heap.size 2 (by omega)).trans p2) (And.intro (((bcell hB1').1 (w.heap.size + 1) 0 (by omega)).trans q0) (And.intro (((bcell hB1').1 (w.heap.size + 1) 1 (by omega)).trans q1) (((bcell hB1').1 (w.heap.size + 1) 2 (by omega)).trans q2)))))); have Ho1 := Lib.hid ho1; have HB1 := Lib.hid hB1'; clear ho1 hg1 hB1 hB1')
          | (go_at_call 15; (with_reducible refine (HY.out _).mono ?_); rintro e w2 ⟨a2, c2, g2, rfl, ho2, hg2, hB2⟩; have hB2' : Below w0.heap.size w0 w2 := HB1.out.trans (hB2.mono HB1.out.size); have HP2 := Lib.hid (And.intro (((bcell hB2').1 w.heap.size 0 (by omega)).trans p0) (And.intro (((bcell hB2').1 w.heap.size 1 (by omega)).trans p1) (And.intro (((bcell hB2').1 w.heap.size 2 (by omega)).trans p2) (And.intro (((bcell hB2').1 (w.heap.size + 1) 0 (by omega)).trans q0) (And.intro (((bcell hB2').1 (w.heap.size + 1) 1 (by omega)).trans q1) (((bcell hB2').1 (w.heap.size + 1) 2 (by omega)).trans q2)))))); have Ho12 := Lib.hid (Ho1.out.ext hB2); have Ho2 := Lib.hid ho2; have HB2 := Lib.hid hB2'; clear ho2 hg2 hB2 hB2')
          | fail "no arm")
      go_wp2_with (first
        | (go_at_call 16; (with_reducible refine (HOx.out _ _ _ Ho12.out.rd).mono ?_); rintro e w3 ⟨rfl, hB3⟩; have HB3 := Lib.hid hB3; have hs3 := hB3.size; clear hB3)
        | (go_at_call 16; refine (HOb.out _ (HB0.out.trans ((HB2.out.trans ((HB3.out.trans ((ext_alloc w3 _).mono hs3)).mono HB2.out.size)).mono (by omega)))).mono ?_; rintro e w4 ⟨rfl, hB4⟩; have HB4 := Lib.hid hB4; have hs4 := hB4.size; clear hB4)
        | (go_at_call 17; refine (HRb.out _ (HB0.out.trans ((HB2.out.trans ((HB3.out.trans (((ext_alloc w3 _).trans (HB4.out.mono (by simp))).mono hs3)).mono HB2.out.size)).mono (by omega)) |>.trans ((ext_alloc w4 _).mono (by have := HB0.out.size; have := HB2.out.size; simp at hs4; omega)))).mono ?_; rintro e w5 ⟨rfl, hB5⟩; have HB5 := Lib.hid hB5; have hs5 := hB5.size; clear hB5))
      obtain ⟨WB, hWB⟩ : ∃ WB, w5.alloc (Obj.cells #[Value.int IntKind.u32 (z0 : Nat), Value.int IntKind.u32 (z1 : Nat), Value.int IntKind.u32 (z2 : Nat)] 24) = WB := ⟨_, rfl⟩
      have k4 : Below (w3.alloc (Obj.cells #[Value.int IntKind.u32 (x0 : Nat), Value.int IntKind.u32 (x1 : Nat), Value.int IntKind.u32 (x2 : Nat)] 24)).heap.size (w3.alloc (Obj.cells #[Value.int IntKind.u32 (x0 : Nat), Value.int IntKind.u32 (x1 : Nat), Value.int IntKind.u32 (x2 : Nat)] 24)) (w4.alloc (Obj.cells #[Value.int IntKind.u32 (z0 : Nat), Value.int IntKind.u32 (z1 : Nat), Value.int IntKind.u32 (z2 : Nat)] 24)) := HB4.out.trans ((ext_alloc w4 _).mono HB4.out.size)
      have k5 : Below (w4.alloc (Obj.cells #[Value.int IntKind.u32 (z0 : Nat), Value.int IntKind.u32 (z1 : Nat), Value.int IntKind.u32 (z2 : Nat)] 24)).heap.size (w4.alloc (Obj.cells #[Value.int IntKind.u32 (z0 : Nat), Value.int IntKind.u32 (z1 : Nat), Value.int IntKind.u32 (z2 : Nat)] 24)) WB := by rw [← hWB]; exact HB5.out.trans ((ext_alloc w5 _).mono HB5.out.size)
      have k45 := k4.trans (k5.mono k4.size)
      have k25 : Below w2.heap.size w2 WB := (HB3.out.trans ((ext_alloc w3 _).mono hs3)).trans (k45.mono (by simp; omega))
      have k05 : Below w0.heap.size w0 WB := HB2.out.trans (k25.mono HB2.out.size)
      have s05 := k05.size
      have s45 := k45.size
      have s5 := k5.size
      have s6 : w5.heap.size + 1 ≤ WB.heap.size := by rw [← hWB]; simp
      simp at s45 s5
      have hS : ∀ w', Below WB.heap.size WB w' → w'.cell? ⟨w.heap.size, 0, none⟩ = some (.int .u32 (x0 : Nat)) ∧ w'.cell? ⟨w.heap.size, 1, none⟩ = some (.int .u32 (x1 : Nat)) ∧ w'.cell? ⟨w.heap.size, 2, none⟩ = some (.int .u32 (x2 : Nat)) ∧ w'.cell? ⟨w.heap.size + 1, 0, none⟩ = some (.int .u32 (y0 : Nat)) ∧ w'.cell? ⟨w.heap.size + 1, 1, none⟩ = some (.int .u32 (y1 : Nat)) ∧ w'.cell? ⟨w.heap.size + 1, 2, none⟩ = some (.int .u32 (y2 : Nat)) ∧ w'.cell? ⟨w3.heap.size, 0, none⟩ = some (.int .u32 (x0 : Nat)) ∧ w'.cell? ⟨w3.heap.size, 1, none⟩ = some (.int .u32 (x1 : Nat)) ∧ w'.cell? ⟨w3.heap.size, 2, none⟩ = some (.int .u32 (x2 : Nat)) ∧ w'.cell? ⟨w4.heap.size, 0, none⟩ = some (.int .u32 (z0 : Nat)) ∧ w'.cell? ⟨w4.heap.size, 1, none⟩ = some (.int .u32 (z1 : Nat)) ∧ w'.cell? ⟨w4.heap.size, 2, none⟩ = some (.int .u32 (z2 : Nat)) ∧ w'.cell? ⟨w5.heap.size, 0, none⟩ = some (.int .u32 (z0 : Nat)) ∧ w'.cell? ⟨w5.heap.size, 1, none⟩ = some (.int .u32 (z1 : Nat)) ∧ w'.cell? ⟨w5.heap.size, 2, none⟩ = some (.int .u32 (z2 : Nat)) ∧ (convert 25 9 (.slice a1 12 c1)).run Try.prog w' = .ok (.string (bs (key3 x0 x1 x2))) w' ∧ (convert 25 9 (.slice a2 12 c2)).run Try.prog w' = .ok (.string (bs (key3 y0 y1 y2))) w' := fun w' h => ⟨((bcell h).1 (w.heap.size) 0 (by omega)).trans (((bcell k05).1 (w.heap.size) 0 (by omega)).trans p0), ((bcell h).1 (w.heap.size) 1 (by omega)).trans (((bcell k05).1 (w.heap.size) 1 (by omega)).trans p1), ((bcell h).1 (w.heap.size) 2 (by omega)).trans (((bcell k05).1 (w.heap.size) 2 (by omega)).trans p2), ((bcell h).1 (w.heap.size + 1) 0 (by omega)).trans (((bcell k05).1 (w.heap.size + 1) 0 (by omega)).trans q0), ((bcell h).1 (w.heap.size + 1) 1 (by omega)).trans (((bcell k05).1 (w.heap.size + 1) 1 (by omega)).trans q1), ((bcell h).1 (w.heap.size + 1) 2 (by omega)).trans (((bcell k05).1 (w.heap.size + 1) 2 (by omega)).trans q2), ((bcell h).1 w3.heap.size 0 (by omega)).trans (((bcell k45).1 w3.heap.size 0 (by simp)).trans (by simp [go_sem, ↓IntWalk.iteOmega])), ((bcell h).1 w3.heap.size 1 (by omega)).trans (((bcell k45).1 w3.heap.size 1 (by simp)).trans (by simp [go_sem, ↓IntWalk.iteOmega])), ((bcell h).1 w3.heap.size 2 (by omega)).trans (((bcell k45).1 w3.heap.size 2 (by simp)).trans (by simp [go_sem, ↓IntWalk.iteOmega])), ((bcell h).1 w4.heap.size 0 (by omega)).trans (((bcell k5).1 w4.heap.size 0 (by simp)).trans (by simp [go_sem, ↓IntWalk.iteOmega])), ((bcell h).1 w4.heap.size 1 (by omega)).trans (((bcell k5).1 w4.heap.size 1 (by simp)).trans (by simp [go_sem, ↓IntWalk.iteOmega])), ((bcell h).1 w4.heap.size 2 (by omega)).trans (((bcell k5).1 w4.heap.size 2 (by simp)).trans (by simp [go_sem, ↓IntWalk.iteOmega])), ((bcell h).1 w5.heap.size 0 (by omega)).trans (by rw [← hWB]; simp [go_sem, ↓IntWalk.iteOmega]), ((bcell h).1 w5.heap.size 1 (by omega)).trans (by rw [← hWB]; simp [go_sem, ↓IntWalk.iteOmega]), ((bcell h).1 w5.heap.size 2 (by omega)).trans (by rw [← hWB]; simp [go_sem, ↓IntWalk.iteOmega]), run_string_own (P := Try.prog) (src := 25) (dst := 9) (W := key3 x0 x1 x2) Try.underlying25 Try.underlying5 Try.underlying9 ((Ho12.out).ext (k25.trans (h.mono k25.size))), run_string_own (P := Try.prog) (src := 25) (dst := 9) (W := key3 y0 y1 y2) Try.underlying25 Try.underlying5 Try.underlying9 ((Ho2.out).ext (k25.trans (h.mono k25.size)))⟩
      have HS := Lib.hid hS
      have HBB := Lib.hid (HB0.out.trans (k05.mono (by omega)))
      rw [hWB]
      clear hS k4 k5 k45 k25 k05 hWB s05 s45 s5 s6 p0 p1 p2 q0 q1 q2 hs3 hs4 hs5
      have hcmp := Hcmp.out
      have hBc : Below (WB).heap.size WB (WB).drew := ext_drew _
      refine wp_region_held_drew (S := (fun w' => w'.cell? ⟨w.heap.size, 0, none⟩ = some (.int .u32 (x0 : Nat)) ∧ w'.cell? ⟨w.heap.size, 1, none⟩ = some (.int .u32 (x1 : Nat)) ∧ w'.cell? ⟨w.heap.size, 2, none⟩ = some (.int .u32 (x2 : Nat)) ∧ w'.cell? ⟨w.heap.size + 1, 0, none⟩ = some (.int .u32 (y0 : Nat)) ∧ w'.cell? ⟨w.heap.size + 1, 1, none⟩ = some (.int .u32 (y1 : Nat)) ∧ w'.cell? ⟨w.heap.size + 1, 2, none⟩ = some (.int .u32 (y2 : Nat)) ∧ w'.cell? ⟨w3.heap.size, 0, none⟩ = some (.int .u32 (x0 : Nat)) ∧ w'.cell? ⟨w3.heap.size, 1, none⟩ = some (.int .u32 (x1 : Nat)) ∧ w'.cell? ⟨w3.heap.size, 2, none⟩ = some (.int .u32 (x2 : Nat)) ∧ w'.cell? ⟨w4.heap.size, 0, none⟩ = some (.int .u32 (z0 : Nat)) ∧ w'.cell? ⟨w4.heap.size, 1, none⟩ = some (.int .u32 (z1 : Nat)) ∧ w'.cell? ⟨w4.heap.size, 2, none⟩ = some (.int .u32 (z2 : Nat)) ∧ w'.cell? ⟨w5.heap.size, 0, none⟩ = some (.int .u32 (z0 : Nat)) ∧ w'.cell? ⟨w5.heap.size, 1, none⟩ = some (.int .u32 (z1 : Nat)) ∧ w'.cell? ⟨w5.heap.size, 2, none⟩ = some (.int .u32 (z2 : Nat)) ∧ (convert 25 9 (.slice a1 12 c1)).run Try.prog w' = .ok (.string (bs (key3 x0 x1 x2))) w' ∧ (convert 25 9 (.slice a2 12 c2)).run Try.prog w' = .ok (.string (bs (key3 y0 y1 y2))) w')) (by kernel_rfl) (HS.out _ hBc) (fun hHeld => ?_)
      refine wpAnyH_take (i := 0) (oi := ({ dst := some 38, op := Go.Op.move (Go.Operand.tmp 7), type := 25, pos := "law.go:28", after := #[], guard := none } : Oper)) (v := ?_) rfl (by kernel_rfl) (by kernel_rfl) (by kernel_rfl) (fun _ _ _ h => h) (Or.inl ⟨by rfl, ?_⟩) hHeld ?_
      rotate_left
      · (intro w' hSw; (try dsimp only at hSw); go_simp; try (with_reducible rfl))
      try simp only [Act.put, List.setIfInBounds_toArray, List.set_cons_zero, List.set_cons_succ]
      refine wpAnyH_take (i := 1) (oi := ({ dst := some 39, op := Go.Op.convert 25 9 (Go.Operand.tmp 38), type := 9, pos := "law.go:28", after := #[{ on := 0, ground := Go.Ground.data }], guard := none } : Oper)) (v := ?_) rfl (by kernel_rfl) (by kernel_rfl) (by kernel_rfl) (fun _ _ _ h => h) (Or.inl ⟨by rfl, ?_⟩) hHeld ?_
      rotate_left
      · (intro w' hSw; (try dsimp only at hSw); go_simp; try (with_reducible rfl))
      try simp only [Act.put, List.setIfInBounds_toArray, List.set_cons_zero, List.set_cons_succ]
      refine wpAnyH_take (i := 2) (oi := ({ dst := some 40, op := Go.Op.load 24 (Go.Operand.tmp 3), type := 24, pos := "law.go:28", after := #[], guard := none } : Oper)) (v := ?_) rfl (by kernel_rfl) (by kernel_rfl) (by kernel_rfl) (fun _ _ _ h => h) (Or.inl ⟨by rfl, ?_⟩) hHeld ?_
      rotate_left
      · (intro w' hSw; (try dsimp only at hSw); go_simp; try (with_reducible rfl))
      try simp only [Act.put, List.setIfInBounds_toArray, List.set_cons_zero, List.set_cons_succ]
      refine wpAnyH_ready (rs := [3]) (by kernel_rfl) (by simp) ?_
      refine AllReadyH.cons (o := ({ dst := some 41, op := Go.Op.call { callee := Go.Callee.value (Go.Operand.func 18), args := #[Go.Operand.tmp 40], argTypes := #[24] }, type := 25, pos := "law.go:28", after := #[{ on := 2, ground := Go.Ground.data }], guard := none } : Oper)) rfl (fun K hK => ?_) AllReadyH.nil
      go_simp
      go_at_call 18
      refine ((HRk.out _)).mono ?_
      rintro e w6 ⟨a6, c6, g6, rfl, ho6, hg6, hB6⟩
      go_wp2_with fail
      have hcv : (convert 25 9 (.slice a6 12 c6)).run Try.prog w6 = .ok (.string (bs (key3 x0 x1 x2))) w6 := run_string_own (P := Try.prog) (src := 25) (dst := 9) (W := key3 x0 x1 x2) Try.underlying25 Try.underlying5 Try.underlying9 ho6
      have hBc := hBc.trans ((hB6).mono hBc.size)
      refine hK.out _ _ (HS.out _ hBc) (fun hHeld => ?_)
      clear hK K
      try simp only [Act.put, List.setIfInBounds_toArray, List.set_cons_zero, List.set_cons_succ]
      refine wpAnyH_ready (rs := [4]) (by kernel_rfl) (by simp) ?_
      refine AllReadyH.cons (o := ({ dst := some 42, op := Go.Op.convert 25 9 (Go.Operand.tmp 41), type := 9, pos := "law.go:28", after := #[{ on := 3, ground := Go.Ground.data }], guard := none } : Oper)) rfl (fun K hK => ?_) AllReadyH.nil
      go_simp
      refine hK.out _ _ (HS.out _ hBc) (fun hHeld => ?_)
      clear hK K hcv
      try simp only [Act.put, List.setIfInBounds_toArray, List.set_cons_zero, List.set_cons_succ]
      refine wpAnyH_take (i := 5) (oi := ({ dst := some 43, op := Go.Op.binOp Go.BinOp.eql 9 (Go.Operand.tmp 39) (Go.Operand.tmp 42) 9, type := 4, pos := "law.go:28", after := #[{ on := 1, ground := Go.Ground.data }, { on := 4, ground := Go.Ground.data }], guard := none } : Oper)) (v := ?_) rfl (by kernel_rfl) (by kernel_rfl) (by kernel_rfl) (fun _ _ _ h => h) (Or.inl ⟨by rfl, ?_⟩) hHeld ?_
      rotate_left
      · (intro w' hSw; (try dsimp only at hSw); go_simp; try (with_reducible rfl))
      try simp only [Act.put, List.setIfInBounds_toArray, List.set_cons_zero, List.set_cons_succ]
      refine wpAnyH_take (i := 6) (oi := ({ dst := some 44, op := Go.Op.move (Go.Operand.tmp 43), type := 4, pos := "law.go:28", after := #[{ on := 5, ground := Go.Ground.data }, { on := 3, ground := Go.Ground.chain }], guard := none } : Oper)) (v := ?_) rfl (by kernel_rfl) (by kernel_rfl) (by kernel_rfl) (fun _ _ _ h => h) (Or.inl ⟨by rfl, ?_⟩) hHeld ?_
      rotate_left
      · (intro w' hSw; (try dsimp only at hSw); go_simp; try (with_reducible rfl))
      try simp only [Act.put, List.setIfInBounds_toArray, List.set_cons_zero, List.set_cons_succ]
      refine wpAnyH_take (i := 7) (oi := ({ dst := some 45, op := Go.Op.load 24 (Go.Operand.tmp 9), type := 24, pos := "law.go:28", after := #[{ on := 6, ground := Go.Ground.guard }], guard := some (6, true) } : Oper)) (v := ?_) rfl (by kernel_rfl) (by kernel_rfl) (by kernel_rfl) (fun _ _ _ h => h) (Or.inl ⟨by rfl, ?_⟩) hHeld ?_
      rotate_left
      · (intro w' hSw; (try dsimp only at hSw); go_simp; try (with_reducible rfl))
      try simp only [Act.put, List.setIfInBounds_toArray, List.set_cons_zero, List.set_cons_succ]
      refine wpAnyH_take (i := 8) (oi := ({ dst := some 46, op := Go.Op.load 24 (Go.Operand.tmp 3), type := 24, pos := "law.go:28", after := #[{ on := 6, ground := Go.Ground.guard }], guard := some (6, true) } : Oper)) (v := ?_) rfl (by kernel_rfl) (by kernel_rfl) (by kernel_rfl) (fun _ _ _ h => h) (Or.inl ⟨by rfl, ?_⟩) hHeld ?_
      rotate_left
      · (intro w' hSw; (try dsimp only at hSw); go_simp; try (with_reducible rfl))
      try simp only [Act.put, List.setIfInBounds_toArray, List.set_cons_zero, List.set_cons_succ]
      refine wpAnyH_take (i := 9) (oi := ({ dst := some 47, op := Go.Op.binOp Go.BinOp.eql 24 (Go.Operand.tmp 45) (Go.Operand.tmp 46) 24, type := 4, pos := "law.go:28", after := #[{ on := 7, ground := Go.Ground.data }, { on := 8, ground := Go.Ground.data }, { on := 6, ground := Go.Ground.guard }], guard := some (6, true) } : Oper)) (v := ?_) rfl (by kernel_rfl) (by kernel_rfl) (by kernel_rfl) (fun _ _ _ h => h) (Or.inl ⟨by rfl, ?_⟩) hHeld ?_
      rotate_left
      · (intro w' hSw; (try dsimp only at hSw); go_simp; try (with_reducible rfl))
      try simp only [Act.put, List.setIfInBounds_toArray, List.set_cons_zero, List.set_cons_succ]
      refine wpAnyH_take (i := 10) (oi := ({ dst := some 48, op := Go.Op.pick (Go.Operand.tmp 44) (Go.Operand.tmp 47) (Go.Operand.const (Go.Value.bool false)), type := 4, pos := "law.go:28", after := #[{ on := 6, ground := Go.Ground.data }, { on := 9, ground := Go.Ground.data }], guard := none } : Oper)) (v := ?_) rfl (by kernel_rfl) (by kernel_rfl) (by kernel_rfl) (fun _ _ _ h => h) (Or.inl ⟨by rfl, ?_⟩) hHeld ?_
      rotate_left
      · (intro w' hSw; (try dsimp only at hSw); go_simp; try (with_reducible rfl))
      try simp only [Act.put, List.setIfInBounds_toArray, List.set_cons_zero, List.set_cons_succ]
      refine wpAnyH_take (i := 11) (oi := ({ dst := some 49, op := Go.Op.move (Go.Operand.tmp 48), type := 4, pos := "law.go:28", after := #[{ on := 10, ground := Go.Ground.data }, { on := 6, ground := Go.Ground.chain }], guard := none } : Oper)) (v := ?_) rfl (by kernel_rfl) (by kernel_rfl) (by kernel_rfl) (fun _ _ _ h => h) (Or.inl ⟨by rfl, ?_⟩) hHeld ?_
      rotate_left
      · (intro w' hSw; (try dsimp only at hSw); go_simp; try (with_reducible rfl))
      try simp only [Act.put, List.setIfInBounds_toArray, List.set_cons_zero, List.set_cons_succ]
      refine wpAnyH_take (i := 12) (oi := ({ dst := some 50, op := Go.Op.move (Go.Operand.tmp 10), type := 28, pos := "law.go:28", after := #[{ on := 11, ground := Go.Ground.guard }], guard := some (11, true) } : Oper)) (v := ?_) rfl (by kernel_rfl) (by kernel_rfl) (by kernel_rfl) (fun _ _ _ h => h) (Or.inl ⟨by rfl, ?_⟩) hHeld ?_
      rotate_left
      · (intro w' hSw; (try dsimp only at hSw); go_simp; try (with_reducible rfl))
      try simp only [Act.put, List.setIfInBounds_toArray, List.set_cons_zero, List.set_cons_succ]
      refine wpAnyH_take (i := 13) (oi := ({ dst := some 51, op := Go.Op.binOp Go.BinOp.eql 28 (Go.Operand.tmp 50) (Go.Operand.const (Go.Value.int Go.IntKind.i64 0)) 28, type := 4, pos := "law.go:28", after := #[{ on := 12, ground := Go.Ground.data }, { on := 11, ground := Go.Ground.guard }], guard := some (11, true) } : Oper)) (v := ?_) rfl (by kernel_rfl) (by kernel_rfl) (by kernel_rfl) (fun _ _ _ h => h) (Or.inl ⟨by rfl, ?_⟩) hHeld ?_
      rotate_left
      · (intro w' hSw; (try dsimp only at hSw); go_simp; try (with_reducible rfl))
      try simp only [Act.put, List.setIfInBounds_toArray, List.set_cons_zero, List.set_cons_succ]
      refine wpAnyH_take (i := 14) (oi := ({ dst := some 52, op := Go.Op.pick (Go.Operand.tmp 49) (Go.Operand.tmp 51) (Go.Operand.const (Go.Value.bool false)), type := 4, pos := "law.go:28", after := #[{ on := 11, ground := Go.Ground.data }, { on := 13, ground := Go.Ground.data }], guard := none } : Oper)) (v := ?_) rfl (by kernel_rfl) (by kernel_rfl) (by kernel_rfl) (fun _ _ _ h => h) (Or.inl ⟨by rfl, ?_⟩) hHeld ?_
      rotate_left
      · (intro w' hSw; (try dsimp only at hSw); go_simp; try (with_reducible rfl))
      try simp only [Act.put, List.setIfInBounds_toArray, List.set_cons_zero, List.set_cons_succ]
      refine wpAnyH_take (i := 15) (oi := ({ dst := some 53, op := Go.Op.move (Go.Operand.tmp 52), type := 4, pos := "law.go:28", after := #[{ on := 14, ground := Go.Ground.data }, { on := 11, ground := Go.Ground.chain }], guard := none } : Oper)) (v := ?_) rfl (by kernel_rfl) (by kernel_rfl) (by kernel_rfl) (fun _ _ _ h => h) (Or.inl ⟨by rfl, ?_⟩) hHeld ?_
      rotate_left
      · (intro w' hSw; (try dsimp only at hSw); go_simp; try (with_reducible rfl))
      try simp only [Act.put, List.setIfInBounds_toArray, List.set_cons_zero, List.set_cons_succ]
      refine wpAnyH_take (i := 16) (oi := ({ dst := some 54, op := Go.Op.load 24 (Go.Operand.tmp 11), type := 24, pos := "law.go:28", after := #[{ on := 15, ground := Go.Ground.guard }], guard := some (15, true) } : Oper)) (v := ?_) rfl (by kernel_rfl) (by kernel_rfl) (by kernel_rfl) (fun _ _ _ h => h) (Or.inl ⟨by rfl, ?_⟩) hHeld ?_
      rotate_left
      · (intro w' hSw; (try dsimp only at hSw); go_simp; try (with_reducible rfl))
      try simp only [Act.put, List.setIfInBounds_toArray, List.set_cons_zero, List.set_cons_succ]
      refine wpAnyH_take (i := 17) (oi := ({ dst := some 55, op := Go.Op.load 24 (Go.Operand.tmp 13), type := 24, pos := "law.go:28", after := #[{ on := 15, ground := Go.Ground.guard }], guard := some (15, true) } : Oper)) (v := ?_) rfl (by kernel_rfl) (by kernel_rfl) (by kernel_rfl) (fun _ _ _ h => h) (Or.inl ⟨by rfl, ?_⟩) hHeld ?_
      rotate_left
      · (intro w' hSw; (try dsimp only at hSw); go_simp; try (with_reducible rfl))
      try simp only [Act.put, List.setIfInBounds_toArray, List.set_cons_zero, List.set_cons_succ]
      refine wpAnyH_take (i := 18) (oi := ({ dst := some 56, op := Go.Op.binOp Go.BinOp.eql 24 (Go.Operand.tmp 54) (Go.Operand.tmp 55) 24, type := 4, pos := "law.go:28", after := #[{ on := 16, ground := Go.Ground.data }, { on := 17, ground := Go.Ground.data }, { on := 15, ground := Go.Ground.guard }], guard := some (15, true) } : Oper)) (v := ?_) rfl (by kernel_rfl) (by kernel_rfl) (by kernel_rfl) (fun _ _ _ h => h) (Or.inl ⟨by rfl, ?_⟩) hHeld ?_
      rotate_left
      · (intro w' hSw; (try dsimp only at hSw); go_simp; try (with_reducible rfl))
      try simp only [Act.put, List.setIfInBounds_toArray, List.set_cons_zero, List.set_cons_succ]
      refine wpAnyH_take (i := 19) (oi := ({ dst := some 57, op := Go.Op.pick (Go.Operand.tmp 53) (Go.Operand.tmp 56) (Go.Operand.const (Go.Value.bool false)), type := 4, pos := "law.go:28", after := #[{ on := 15, ground := Go.Ground.data }, { on := 18, ground := Go.Ground.data }], guard := none } : Oper)) (v := ?_) rfl (by kernel_rfl) (by kernel_rfl) (by kernel_rfl) (fun _ _ _ h => h) (Or.inl ⟨by rfl, ?_⟩) hHeld ?_
      rotate_left
      · (intro w' hSw; (try dsimp only at hSw); go_simp; try (with_reducible rfl))
      try simp only [Act.put, List.setIfInBounds_toArray, List.set_cons_zero, List.set_cons_succ]
      refine wpAnyH_take (i := 20) (oi := ({ dst := some 58, op := Go.Op.move (Go.Operand.tmp 57), type := 4, pos := "law.go:28", after := #[{ on := 19, ground := Go.Ground.data }, { on := 15, ground := Go.Ground.chain }], guard := none } : Oper)) (v := ?_) rfl (by kernel_rfl) (by kernel_rfl) (by kernel_rfl) (fun _ _ _ h => h) (Or.inl ⟨by rfl, ?_⟩) hHeld ?_
      rotate_left
      · (intro w' hSw; (try dsimp only at hSw); go_simp; try (with_reducible rfl))
      try simp only [Act.put, List.setIfInBounds_toArray, List.set_cons_zero, List.set_cons_succ]
      refine wpAnyH_take (i := 21) (oi := ({ dst := some 59, op := Go.Op.move (Go.Operand.tmp 12), type := 28, pos := "law.go:28", after := #[{ on := 20, ground := Go.Ground.guard }], guard := some (20, true) } : Oper)) (v := ?_) rfl (by kernel_rfl) (by kernel_rfl) (by kernel_rfl) (fun _ _ _ h => h) (Or.inl ⟨by rfl, ?_⟩) hHeld ?_
      rotate_left
      · (intro w' hSw; (try dsimp only at hSw); go_simp; try (with_reducible rfl))
      try simp only [Act.put, List.setIfInBounds_toArray, List.set_cons_zero, List.set_cons_succ]
      refine wpAnyH_take (i := 22) (oi := ({ dst := some 60, op := Go.Op.binOp Go.BinOp.eql 28 (Go.Operand.tmp 59) (Go.Operand.const (Go.Value.int Go.IntKind.i64 0)) 28, type := 4, pos := "law.go:28", after := #[{ on := 21, ground := Go.Ground.data }, { on := 20, ground := Go.Ground.guard }], guard := some (20, true) } : Oper)) (v := ?_) rfl (by kernel_rfl) (by kernel_rfl) (by kernel_rfl) (fun _ _ _ h => h) (Or.inl ⟨by rfl, ?_⟩) hHeld ?_
      rotate_left
      · (intro w' hSw; (try dsimp only at hSw); go_simp; try (with_reducible rfl))
      try simp only [Act.put, List.setIfInBounds_toArray, List.set_cons_zero, List.set_cons_succ]
      refine wpAnyH_take (i := 23) (oi := ({ dst := some 61, op := Go.Op.move (Go.Operand.tmp 60), type := 4, pos := "law.go:28", after := #[{ on := 22, ground := Go.Ground.data }, { on := 20, ground := Go.Ground.chain }, { on := 20, ground := Go.Ground.guard }], guard := some (20, true) } : Oper)) (v := ?_) rfl (by kernel_rfl) (by kernel_rfl) (by kernel_rfl) (fun _ _ _ h => h) (Or.inl ⟨by rfl, ?_⟩) hHeld ?_
      rotate_left
      · (intro w' hSw; (try dsimp only at hSw); go_simp; try (with_reducible rfl))
      try simp only [Act.put, List.setIfInBounds_toArray, List.set_cons_zero, List.set_cons_succ]
      refine wpAnyH_take (i := 24) (oi := ({ dst := some 62, op := Go.Op.move (Go.Operand.tmp 14), type := 4, pos := "law.go:28", after := #[{ on := 23, ground := Go.Ground.guard }], guard := some (23, true) } : Oper)) (v := undef) rfl (by kernel_rfl) (by kernel_rfl) (by kernel_rfl) (fun _ _ _ h => h) (Or.inr ⟨by rfl, rfl⟩) hHeld ?_
      try simp only [Act.put, List.setIfInBounds_toArray, List.set_cons_zero, List.set_cons_succ]
      refine wpAnyH_take (i := 25) (oi := ({ dst := some 63, op := Go.Op.pick (Go.Operand.tmp 61) (Go.Operand.tmp 62) (Go.Operand.const (Go.Value.bool false)), type := 4, pos := "law.go:28", after := #[{ on := 23, ground := Go.Ground.data }, { on := 24, ground := Go.Ground.data }, { on := 20, ground := Go.Ground.guard }], guard := some (20, true) } : Oper)) (v := ?_) rfl (by kernel_rfl) (by kernel_rfl) (by kernel_rfl) (fun _ _ _ h => h) (Or.inl ⟨by rfl, ?_⟩) hHeld ?_
      rotate_left
      · (intro w' hSw; (try dsimp only at hSw); go_simp; try (with_reducible rfl))
      try simp only [Act.put, List.setIfInBounds_toArray, List.set_cons_zero, List.set_cons_succ]
      refine wpAnyH_take (i := 26) (oi := ({ dst := some 64, op := Go.Op.move (Go.Operand.tmp 63), type := 4, pos := "law.go:28", after := #[{ on := 25, ground := Go.Ground.data }, { on := 23, ground := Go.Ground.chain }, { on := 20, ground := Go.Ground.guard }], guard := some (20, true) } : Oper)) (v := ?_) rfl (by kernel_rfl) (by kernel_rfl) (by kernel_rfl) (fun _ _ _ h => h) (Or.inl ⟨by rfl, ?_⟩) hHeld ?_
      rotate_left
      · (intro w' hSw; (try dsimp only at hSw); go_simp; try (with_reducible rfl))
      try simp only [Act.put, List.setIfInBounds_toArray, List.set_cons_zero, List.set_cons_succ]
      refine wpAnyH_take (i := 27) (oi := ({ dst := some 65, op := Go.Op.move (Go.Operand.tmp 12), type := 28, pos := "law.go:28", after := #[{ on := 26, ground := Go.Ground.guard }], guard := some (26, false) } : Oper)) (v := ?_) rfl (by kernel_rfl) (by kernel_rfl) (by kernel_rfl) (fun _ _ _ h => h) (Or.inl ⟨by rfl, ?_⟩) hHeld ?_
      rotate_left
      · (intro w' hSw; (try dsimp only at hSw); go_simp; try (with_reducible rfl))
      try simp only [Act.put, List.setIfInBounds_toArray, List.set_cons_zero, List.set_cons_succ]
      refine wpAnyH_take (i := 28) (oi := ({ dst := some 66, op := Go.Op.binOp Go.BinOp.eql 28 (Go.Operand.tmp 65) (Go.Operand.const (Go.Value.int Go.IntKind.i64 3)) 28, type := 4, pos := "law.go:28", after := #[{ on := 27, ground := Go.Ground.data }, { on := 26, ground := Go.Ground.guard }], guard := some (26, false) } : Oper)) (v := ?_) rfl (by kernel_rfl) (by kernel_rfl) (by kernel_rfl) (fun _ _ _ h => h) (Or.inl ⟨by rfl, ?_⟩) hHeld ?_
      rotate_left
      · (intro w' hSw; (try dsimp only at hSw); go_simp; try (with_reducible rfl))
      try simp only [Act.put, List.setIfInBounds_toArray, List.set_cons_zero, List.set_cons_succ]
      refine wpAnyH_take (i := 29) (oi := ({ dst := some 67, op := Go.Op.move (Go.Operand.tmp 66), type := 4, pos := "law.go:28", after := #[{ on := 28, ground := Go.Ground.data }, { on := 26, ground := Go.Ground.chain }, { on := 26, ground := Go.Ground.guard }], guard := some (26, false) } : Oper)) (v := ?_) rfl (by kernel_rfl) (by kernel_rfl) (by kernel_rfl) (fun _ _ _ h => h) (Or.inl ⟨by rfl, ?_⟩) hHeld ?_
      rotate_left
      · (intro w' hSw; (try dsimp only at hSw); go_simp; try (with_reducible rfl))
      try simp only [Act.put, List.setIfInBounds_toArray, List.set_cons_zero, List.set_cons_succ]
      refine wpAnyH_take (i := 30) (oi := ({ dst := some 68, op := Go.Op.move (Go.Operand.tmp 14), type := 4, pos := "law.go:28", after := #[{ on := 29, ground := Go.Ground.guard }], guard := some (29, true) } : Oper)) (v := ?_) rfl (by kernel_rfl) (by kernel_rfl) (by kernel_rfl) (fun _ _ _ h => h) (Or.inl ⟨by rfl, ?_⟩) hHeld ?_
      rotate_left
      · (intro w' hSw; (try dsimp only at hSw); go_simp; try (with_reducible rfl))
      try simp only [Act.put, List.setIfInBounds_toArray, List.set_cons_zero, List.set_cons_succ]
      refine wpAnyH_take (i := 31) (oi := ({ dst := some 69, op := Go.Op.unOp Go.UnOp.not 4 (Go.Operand.tmp 68), type := 4, pos := "law.go:28", after := #[{ on := 30, ground := Go.Ground.data }, { on := 29, ground := Go.Ground.guard }], guard := some (29, true) } : Oper)) (v := ?_) rfl (by kernel_rfl) (by kernel_rfl) (by kernel_rfl) (fun _ _ _ h => h) (Or.inl ⟨by rfl, ?_⟩) hHeld ?_
      rotate_left
      · (intro w' hSw; (try dsimp only at hSw); go_simp; try (with_reducible rfl))
      try simp only [Act.put, List.setIfInBounds_toArray, List.set_cons_zero, List.set_cons_succ]
      refine wpAnyH_take (i := 32) (oi := ({ dst := some 70, op := Go.Op.pick (Go.Operand.tmp 67) (Go.Operand.tmp 69) (Go.Operand.const (Go.Value.bool false)), type := 4, pos := "law.go:28", after := #[{ on := 29, ground := Go.Ground.data }, { on := 31, ground := Go.Ground.data }, { on := 26, ground := Go.Ground.guard }], guard := some (26, false) } : Oper)) (v := ?_) rfl (by kernel_rfl) (by kernel_rfl) (by kernel_rfl) (fun _ _ _ h => h) (Or.inl ⟨by rfl, ?_⟩) hHeld ?_
      rotate_left
      · (intro w' hSw; (try dsimp only at hSw); go_simp; try (with_reducible rfl))
      try simp only [Act.put, List.setIfInBounds_toArray, List.set_cons_zero, List.set_cons_succ]
      refine wpAnyH_take (i := 33) (oi := ({ dst := some 71, op := Go.Op.pick (Go.Operand.tmp 64) (Go.Operand.const (Go.Value.bool true)) (Go.Operand.tmp 70), type := 4, pos := "law.go:28", after := #[{ on := 26, ground := Go.Ground.data }, { on := 32, ground := Go.Ground.data }, { on := 20, ground := Go.Ground.guard }], guard := some (20, true) } : Oper)) (v := ?_) rfl (by kernel_rfl) (by kernel_rfl) (by kernel_rfl) (fun _ _ _ h => h) (Or.inl ⟨by rfl, ?_⟩) hHeld ?_
      rotate_left
      · (intro w' hSw; (try dsimp only at hSw); go_simp; try (with_reducible rfl))
      try simp only [Act.put, List.setIfInBounds_toArray, List.set_cons_zero, List.set_cons_succ]
      refine wpAnyH_take (i := 34) (oi := ({ dst := some 72, op := Go.Op.pick (Go.Operand.tmp 58) (Go.Operand.tmp 71) (Go.Operand.const (Go.Value.bool false)), type := 4, pos := "law.go:28", after := #[{ on := 20, ground := Go.Ground.data }, { on := 33, ground := Go.Ground.data }], guard := none } : Oper)) (v := ?_) rfl (by kernel_rfl) (by kernel_rfl) (by kernel_rfl) (fun _ _ _ h => h) (Or.inl ⟨by rfl, ?_⟩) hHeld ?_
      rotate_left
      · (intro w' hSw; (try dsimp only at hSw); go_simp; try (with_reducible rfl))
      try simp only [Act.put, List.setIfInBounds_toArray, List.set_cons_zero, List.set_cons_succ]
      refine wpAnyH_take (i := 35) (oi := ({ dst := some 73, op := Go.Op.move (Go.Operand.tmp 72), type := 4, pos := "law.go:28", after := #[{ on := 34, ground := Go.Ground.data }, { on := 29, ground := Go.Ground.chain }], guard := none } : Oper)) (v := ?_) rfl (by kernel_rfl) (by kernel_rfl) (by kernel_rfl) (fun _ _ _ h => h) (Or.inl ⟨by rfl, ?_⟩) hHeld ?_
      rotate_left
      · (intro w' hSw; (try dsimp only at hSw); go_simp; try (with_reducible rfl))
      try simp only [Act.put, List.setIfInBounds_toArray, List.set_cons_zero, List.set_cons_succ]
      refine wpAnyH_take (i := 36) (oi := ({ dst := some 74, op := Go.Op.move (Go.Operand.tmp 7), type := 25, pos := "law.go:28", after := #[{ on := 35, ground := Go.Ground.guard }], guard := some (35, true) } : Oper)) (v := ?_) rfl (by kernel_rfl) (by kernel_rfl) (by kernel_rfl) (fun _ _ _ h => h) (Or.inl ⟨by rfl, ?_⟩) hHeld ?_
      rotate_left
      · (intro w' hSw; (try dsimp only at hSw); go_simp; try (with_reducible rfl))
      try simp only [Act.put, List.setIfInBounds_toArray, List.set_cons_zero, List.set_cons_succ]
      refine wpAnyH_take (i := 37) (oi := ({ dst := some 75, op := Go.Op.convert 25 9 (Go.Operand.tmp 74), type := 9, pos := "law.go:28", after := #[{ on := 36, ground := Go.Ground.data }, { on := 35, ground := Go.Ground.guard }], guard := some (35, true) } : Oper)) (v := ?_) rfl (by kernel_rfl) (by kernel_rfl) (by kernel_rfl) (fun _ _ _ h => h) (Or.inl ⟨by rfl, ?_⟩) hHeld ?_
      rotate_left
      · (intro w' hSw; (try dsimp only at hSw); go_simp; try (with_reducible rfl))
      try simp only [Act.put, List.setIfInBounds_toArray, List.set_cons_zero, List.set_cons_succ]
      refine wpAnyH_take (i := 38) (oi := ({ dst := some 76, op := Go.Op.move (Go.Operand.tmp 8), type := 25, pos := "law.go:28", after := #[{ on := 35, ground := Go.Ground.guard }], guard := some (35, true) } : Oper)) (v := ?_) rfl (by kernel_rfl) (by kernel_rfl) (by kernel_rfl) (fun _ _ _ h => h) (Or.inl ⟨by rfl, ?_⟩) hHeld ?_
      rotate_left
      · (intro w' hSw; (try dsimp only at hSw); go_simp; try (with_reducible rfl))
      try simp only [Act.put, List.setIfInBounds_toArray, List.set_cons_zero, List.set_cons_succ]
      refine wpAnyH_take (i := 39) (oi := ({ dst := some 77, op := Go.Op.convert 25 9 (Go.Operand.tmp 76), type := 9, pos := "law.go:28", after := #[{ on := 38, ground := Go.Ground.data }, { on := 35, ground := Go.Ground.guard }], guard := some (35, true) } : Oper)) (v := ?_) rfl (by kernel_rfl) (by kernel_rfl) (by kernel_rfl) (fun _ _ _ h => h) (Or.inl ⟨by rfl, ?_⟩) hHeld ?_
      rotate_left
      · (intro w' hSw; (try dsimp only at hSw); go_simp; try (with_reducible rfl))
      try simp only [Act.put, List.setIfInBounds_toArray, List.set_cons_zero, List.set_cons_succ]
      refine wpAnyH_take (i := 40) (oi := ({ dst := some 78, op := Go.Op.binOp Go.BinOp.lss 9 (Go.Operand.tmp 75) (Go.Operand.tmp 77) 9, type := 4, pos := "law.go:28", after := #[{ on := 37, ground := Go.Ground.data }, { on := 39, ground := Go.Ground.data }, { on := 35, ground := Go.Ground.guard }], guard := some (35, true) } : Oper)) (v := ?_) rfl (by kernel_rfl) (by kernel_rfl) (by kernel_rfl) (fun _ _ _ h => h) (Or.inl ⟨by rfl, ?_⟩) hHeld ?_
      rotate_left
      · (intro w' hSw; (try dsimp only at hSw); go_simp; try (with_reducible rfl))
      try simp only [Act.put, List.setIfInBounds_toArray, List.set_cons_zero, List.set_cons_succ]
      refine wpAnyH_take (i := 41) (oi := ({ dst := some 79, op := Go.Op.load 24 (Go.Operand.tmp 3), type := 24, pos := "law.go:28", after := #[{ on := 35, ground := Go.Ground.guard }], guard := some (35, true) } : Oper)) (v := ?_) rfl (by kernel_rfl) (by kernel_rfl) (by kernel_rfl) (fun _ _ _ h => h) (Or.inl ⟨by rfl, ?_⟩) hHeld ?_
      rotate_left
      · (intro w' hSw; (try dsimp only at hSw); go_simp; try (with_reducible rfl))
      try simp only [Act.put, List.setIfInBounds_toArray, List.set_cons_zero, List.set_cons_succ]
      refine wpAnyH_take (i := 42) (oi := ({ dst := some 80, op := Go.Op.load 24 (Go.Operand.tmp 4), type := 24, pos := "law.go:28", after := #[{ on := 35, ground := Go.Ground.guard }], guard := some (35, true) } : Oper)) (v := ?_) rfl (by kernel_rfl) (by kernel_rfl) (by kernel_rfl) (fun _ _ _ h => h) (Or.inl ⟨by rfl, ?_⟩) hHeld ?_
      rotate_left
      · (intro w' hSw; (try dsimp only at hSw); go_simp; try (with_reducible rfl))
      try simp only [Act.put, List.setIfInBounds_toArray, List.set_cons_zero, List.set_cons_succ]
      refine wpAnyH_ready (rs := [43]) (by kernel_rfl) (by simp) ?_
      refine AllReadyH.cons (o := ({ dst := some 81, op := Go.Op.call { callee := Go.Callee.value (Go.Operand.func 19), args := #[Go.Operand.tmp 79, Go.Operand.tmp 80], argTypes := #[24, 24] }, type := 4, pos := "law.go:28", after := #[{ on := 41, ground := Go.Ground.data }, { on := 42, ground := Go.Ground.data }, { on := 35, ground := Go.Ground.chain }, { on := 35, ground := Go.Ground.guard }], guard := some (35, true) } : Oper)) rfl (fun K hK => ?_) AllReadyH.nil
      go_simp
      go_at_call 19
      refine ((HBl.out _)).mono ?_
      rintro e w6 ⟨rfl, hB6⟩
      go_wp2_with fail
      have hBc := hBc.trans ((hB6).mono hBc.size)
      refine hK.out _ _ (HS.out _ hBc) (fun hHeld => ?_)
      clear hK K
      try simp only [Act.put, List.setIfInBounds_toArray, List.set_cons_zero, List.set_cons_succ]
      refine wpAnyH_take (i := 44) (oi := ({ dst := some 82, op := Go.Op.binOp Go.BinOp.eql 4 (Go.Operand.tmp 78) (Go.Operand.tmp 81) 4, type := 4, pos := "law.go:28", after := #[{ on := 40, ground := Go.Ground.data }, { on := 43, ground := Go.Ground.data }, { on := 35, ground := Go.Ground.guard }], guard := some (35, true) } : Oper)) (v := ?_) rfl (by kernel_rfl) (by kernel_rfl) (by kernel_rfl) (fun _ _ _ h => h) (Or.inl ⟨by rfl, ?_⟩) hHeld ?_
      rotate_left
      · (intro w' hSw; (try dsimp only at hSw); go_simp; try (with_reducible rfl))
      try simp only [Act.put, List.setIfInBounds_toArray, List.set_cons_zero, List.set_cons_succ]
      refine wpAnyH_take (i := 45) (oi := ({ dst := some 83, op := Go.Op.pick (Go.Operand.tmp 73) (Go.Operand.tmp 82) (Go.Operand.const (Go.Value.bool false)), type := 4, pos := "law.go:28", after := #[{ on := 35, ground := Go.Ground.data }, { on := 44, ground := Go.Ground.data }], guard := none } : Oper)) (v := ?_) rfl (by kernel_rfl) (by kernel_rfl) (by kernel_rfl) (fun _ _ _ h => h) (Or.inl ⟨by rfl, ?_⟩) hHeld ?_
      rotate_left
      · (intro w' hSw; (try dsimp only at hSw); go_simp; try (with_reducible rfl))
      try simp only [Act.put, List.setIfInBounds_toArray, List.set_cons_zero, List.set_cons_succ]
      refine wpAnyH_take (i := 46) (oi := ({ dst := some 84, op := Go.Op.move (Go.Operand.tmp 83), type := 4, pos := "law.go:28", after := #[{ on := 45, ground := Go.Ground.data }, { on := 43, ground := Go.Ground.chain }], guard := none } : Oper)) (v := ?_) rfl (by kernel_rfl) (by kernel_rfl) (by kernel_rfl) (fun _ _ _ h => h) (Or.inl ⟨by rfl, ?_⟩) hHeld ?_
      rotate_left
      · (intro w' hSw; (try dsimp only at hSw); go_simp; try (with_reducible rfl))
      try simp only [Act.put, List.setIfInBounds_toArray, List.set_cons_zero, List.set_cons_succ]
      refine wpAnyH_ready (rs := [47]) (by kernel_rfl) (by simp) ?_
      refine AllReadyH.cons (o := ({ dst := some 85, op := Go.Op.call { callee := Go.Callee.value (Go.Operand.func 14), args := #[], argTypes := #[] }, type := 4, pos := "law.go:28", after := #[{ on := 46, ground := Go.Ground.chain }, { on := 46, ground := Go.Ground.guard }], guard := some (46, true) } : Oper)) rfl (fun K hK => ?_) AllReadyH.nil
      go_simp
      go_at_call 14
      refine ((awake14_any _)).mono ?_
      rintro e w6 ⟨rfl, hB6⟩
      go_wp2_with fail
      have hBc := hBc.trans ((hB6).mono hBc.size)
      refine hK.out _ _ (HS.out _ hBc) (fun hHeld => ?_)
      clear hK K
      try simp only [Act.put, List.setIfInBounds_toArray, List.set_cons_zero, List.set_cons_succ]
      refine wpAnyH_take (i := 48) (oi := ({ dst := some 86, op := Go.Op.pick (Go.Operand.tmp 84) (Go.Operand.tmp 85) (Go.Operand.const (Go.Value.bool false)), type := 4, pos := "law.go:28", after := #[{ on := 46, ground := Go.Ground.data }, { on := 47, ground := Go.Ground.data }], guard := none } : Oper)) (v := ?_) rfl (by kernel_rfl) (by kernel_rfl) (by kernel_rfl) (fun _ _ _ h => h) (Or.inl ⟨by rfl, ?_⟩) hHeld ?_
      rotate_left
      · (intro w' hSw; (try dsimp only at hSw); go_simp; try (with_reducible rfl))
      try simp only [Act.put, List.setIfInBounds_toArray, List.set_cons_zero, List.set_cons_succ]
      refine wpAnyH_take (i := 49) (oi := ({ dst := some 6, op := Go.Op.assign (Go.Operand.tmp 86), type := 4, pos := "law.go:28", after := #[{ on := 48, ground := Go.Ground.data }, { on := 47, ground := Go.Ground.chain }, { on := 0, ground := Go.Ground.phase }, { on := 1, ground := Go.Ground.phase }, { on := 2, ground := Go.Ground.phase }, { on := 3, ground := Go.Ground.phase }, { on := 4, ground := Go.Ground.phase }, { on := 5, ground := Go.Ground.phase }, { on := 6, ground := Go.Ground.phase }, { on := 7, ground := Go.Ground.phase }, { on := 8, ground := Go.Ground.phase }, { on := 9, ground := Go.Ground.phase }, { on := 10, ground := Go.Ground.phase }, { on := 11, ground := Go.Ground.phase }, { on := 12, ground := Go.Ground.phase }, { on := 13, ground := Go.Ground.phase }, { on := 14, ground := Go.Ground.phase }, { on := 15, ground := Go.Ground.phase }, { on := 16, ground := Go.Ground.phase }, { on := 17, ground := Go.Ground.phase }, { on := 18, ground := Go.Ground.phase }, { on := 19, ground := Go.Ground.phase }, { on := 20, ground := Go.Ground.phase }, { on := 21, ground := Go.Ground.phase }, { on := 22, ground := Go.Ground.phase }, { on := 23, ground := Go.Ground.phase }, { on := 24, ground := Go.Ground.phase }, { on := 25, ground := Go.Ground.phase }, { on := 26, ground := Go.Ground.phase }, { on := 27, ground := Go.Ground.phase }, { on := 28, ground := Go.Ground.phase }, { on := 29, ground := Go.Ground.phase }, { on := 30, ground := Go.Ground.phase }, { on := 31, ground := Go.Ground.phase }, { on := 32, ground := Go.Ground.phase }, { on := 33, ground := Go.Ground.phase }, { on := 34, ground := Go.Ground.phase }, { on := 35, ground := Go.Ground.phase }, { on := 36, ground := Go.Ground.phase }, { on := 37, ground := Go.Ground.phase }, { on := 38, ground := Go.Ground.phase }, { on := 39, ground := Go.Ground.phase }, { on := 40, ground := Go.Ground.phase }, { on := 41, ground := Go.Ground.phase }, { on := 42, ground := Go.Ground.phase }, { on := 43, ground := Go.Ground.phase }, { on := 44, ground := Go.Ground.phase }, { on := 45, ground := Go.Ground.phase }, { on := 46, ground := Go.Ground.phase }, { on := 47, ground := Go.Ground.phase }, { on := 48, ground := Go.Ground.phase }], guard := none } : Oper)) (v := ?_) rfl (by kernel_rfl) (by kernel_rfl) (by kernel_rfl) (fun _ _ _ h => h) (Or.inl ⟨by rfl, ?_⟩) hHeld ?_
      rotate_left
      · (intro w' hSw; (try dsimp only at hSw); go_simp; try (with_reducible rfl))
      try simp only [Act.put, List.setIfInBounds_toArray, List.set_cons_zero, List.set_cons_succ]
      refine wpAnyH_done (by kernel_rfl) ?_ _
      go_wp2_with fail
      go_ret
      exact ⟨rfl, HBB.out.trans (hBc.mono HBB.out.size)⟩
end Go.Proofs.Ytafbjkbdfdeacaa
