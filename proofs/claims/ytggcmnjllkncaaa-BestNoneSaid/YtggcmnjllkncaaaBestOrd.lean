/- best.order: below 0, if a visit is better than another one. -/
import Derived.Test.YtggcmnjllkncaaaBestHeap
import Derived.Test.YtggcmnjllkncaaaCmp
import Derived.Test.YtggcmnjllkncaaaRetB
import Derived.Test.YtggcmnjllkncaaaRep
import Derived.Sort.Grow
namespace Go.Proofs.Ytggcmnjllkncaaa
set_option linter.unusedSimpArgs false
set_option linter.unusedVariables false
set_option maxRecDepth 100000
open Go.RowKit

def visCs (x : VisD) : List Value := [.int .u32 (x.1 : Nat), .int .u32 (x.2.1 : Nat), .int .u64 (x.2.2 : Nat)]
def ordV (a b : VisD) : Int := if cmpN b.2.2 a.2.2 ≠ 0 then cmpN b.2.2 a.2.2 else if cmpN a.2.1 b.2.1 ≠ 0 then cmpN a.2.1 b.2.1 else cmpN a.1 b.1
theorem ordV_lt (a b : VisD) : ordV a b < 0 ↔ betV a b = true := by
  rw [betV_iff]
  unfold ordV cmpN
  repeat' split
  all_goals omega
theorem ordV_gt (a b : VisD) : 0 < ordV a b ↔ betV b a = true := by
  rw [betV_iff]
  unfold ordV cmpN
  repeat' split
  all_goals omega
def or3 (x y z : Int) : Int := if x ≠ 0 then x else if y ≠ 0 then y else z
theorem cmpN_small (a b : Nat) : -1 ≤ cmpN a b ∧ cmpN a b ≤ 1 := by unfold cmpN; split; omega; split <;> omega
def at3 (x y z : Int) (k : Nat) : Int := if k = 0 then x else if k = 1 then y else z
theorem or3_hit {x y z : Int} {k : Nat} (hk : k < 3) (h : ∀ j, j < k → at3 x y z j = 0) (hn : at3 x y z k ≠ 0) : or3 x y z = at3 x y z k := by
  have e : k = 0 ∨ k = 1 ∨ k = 2 := by omega
  rcases e with rfl | rfl | rfl
  · have h0 : x ≠ 0 := hn
    unfold or3; rw [if_pos h0]; rfl
  · have h0 : x = 0 := h 0 (by omega)
    have h1 : y ≠ 0 := hn
    unfold or3; rw [if_neg (by omega), if_pos h1]; rfl
  · have h0 : x = 0 := h 0 (by omega)
    have h1 : y = 0 := h 1 (by omega)
    unfold or3; rw [if_neg (by omega), if_neg (by omega)]; rfl
theorem or3_none {x y z : Int} (h : ∀ j, j < 3 → at3 x y z j = 0) : or3 x y z = 0 := by
  have h0 : x = 0 := h 0 (by omega)
  have h1 : y = 0 := h 1 (by omega)
  have h2 : z = 0 := h 2 (by omega)
  unfold or3; rw [if_neg (by omega), if_neg (by omega)]; exact h2
def or3I (x y z : Int) (w : World) (i : Value) (wr : World) : Prop := ∃ k : Nat, k ≤ 3 ∧ i = .int .i64 (k : Nat) ∧ (∀ j, j < k → at3 x y z j = 0) ∧ wr = w
set_option maxRecDepth 100000 in
set_option maxHeartbeats 1600000 in
theorem or3_any (x y z : Int) (b c : Nat) (w : World) (h0 : w.cell? ⟨b, 0, none⟩ = some (.int .i64 x)) (h1 : w.cell? ⟨b, 1, none⟩ = some (.int .i64 y)) (h2 : w.cell? ⟨b, 2, none⟩ = some (.int .i64 z)) :
    Calls Try.prog 26 #[.slice (some ⟨b, 0, none⟩) 3 c] w fun e w' => e = .returned (.int .i64 (or3 x y z)) ∧ w' = w := by
  have HC := Lib.hid (fun k (hk : k < 3) => (show w.cell? ⟨b, k, none⟩ = some (.int .i64 (at3 x y z k)) from by
    have e : k = 0 ∨ k = 1 ∨ k = 2 := by omega
    rcases e with rfl | rfl | rfl
    · exact h0
    · exact h1
    · exact h2))
  clear h0 h1 h2
  go_enter Try.func26, Try.ntmps26
  go_wp2_with fail
  go_loopw [8] (fun i wr => or3I x y z w i wr) (fun i _ => 3 - (intOf i).toNat)
  case atStart => exact ⟨0, by omega, rfl, fun j h => by omega, rfl⟩
  case round =>
    obtain ⟨k, hk, rfl, hn, hw⟩ := hrel
    obtain rfl : w = wr := hw.symm
    clear hw
    by_cases hlt : k < 3
    · have hc := HC.out k hlt
      have hir : (k : Int) < 3 := by omega
      have d0 : decide ((k : Int) < 3) = true := decide_eq_true hir
      have HN := Lib.hid hn
      by_cases hz : at3 x y z k = 0
      · have HV := Lib.hid (fun j (hj : j < k + 1) => (show at3 x y z j = 0 from by
          by_cases e : j < k
          · exact hn j e
          · obtain rfl : j = k := by omega
            exact hz))
        rw [hz] at hc
        clear hz hn
        go_wp2_with fail
        go_roundw
        case rel => exact ⟨k + 1, by omega, by go_num, HV.out, rfl⟩
        case measure => simp [intOf]; omega
      · have HV := Lib.hid (or3_hit hlt hn hz)
        have e1 : (at3 x y z k != 0) = true := bne_iff_ne.2 hz
        clear hz hn
        generalize at3 x y z k = u at *
        go_wp2_with fail
        go_ret
        exact ⟨by rw [HV.out]; rfl, rfl⟩
    · obtain rfl : k = 3 := by omega
      have HV := Lib.hid (or3_none hn)
      clear hn
      go_wp2_with fail
      go_ret
      exact ⟨by rw [HV.out]; rfl, rfl⟩
theorem ordV_or (a b : VisD) : ordV a b = or3 (cmpN b.2.2 a.2.2) (cmpN a.2.1 b.2.1) (cmpN a.1 b.1) := rfl
/-- only draws, and blocks behind the heap -/
def GrowS (w w' : World) : Prop := ∃ q os, w' = Sort.grow (w.drewN q) os
theorem GrowS.refl (w : World) : GrowS w w := ⟨0, #[], by simp [World.drewN]⟩
theorem GrowS.alloc {w w' : World} (h : GrowS w w') (o : Obj) : GrowS w (w'.alloc o) := by
  obtain ⟨q, os, rfl⟩ := h
  exact ⟨q, os ++ #[o], by rw [Sort.alloc_eq_grow, Sort.grow_grow]⟩
theorem GrowS.drew {w w' : World} (h : GrowS w w') : GrowS w w'.drew := by
  obtain ⟨q, os, rfl⟩ := h
  exact ⟨q + 1, os, rfl⟩
theorem GrowS.below {w w' : World} (h : GrowS w w') : Below w.heap.size w w' := by
  obtain ⟨q, os, rfl⟩ := h
  refine ⟨rfl, rfl, rfl, by simp [World.drewN], fun k hk => ?_⟩
  show (w.heap ++ os)[k]? = _
  rw [Array.getElem?_append_left hk]
set_option maxRecDepth 100000 in
set_option maxHeartbeats 3200000 in
theorem order_lay (a b : VisD) (w : World) : Calls Try.prog 19 #[.agg (visCs a).toArray, .agg (visCs b).toArray] w fun e w' => e = .returned (.int .i64 (ordV a b)) ∧ GrowS w w' := by
  obtain ⟨a0, a1, a2⟩ := a
  obtain ⟨b0, b1, b2⟩ := b
  rw [ordV_or]
  simp only [visCs]
  have H64 := Lib.hid (fun W => cmp64_any b2 a2 W)
  have H32 := Lib.hid (fun W => cmp32_any a1 b1 W)
  have H33 := Lib.hid (fun W => cmp32_any a0 b0 W)
  generalize cmpN b2 a2 = x at *
  generalize cmpN a1 b1 = y at *
  generalize cmpN a0 b0 = z at *
  obtain ⟨W1, hW1⟩ : ∃ W1, (w.alloc (.cells #[.int .u32 (a0 : Nat), .int .u32 (a1 : Nat), .int .u64 (a2 : Nat)] 31)).alloc (.cells #[.int .u32 (b0 : Nat), .int .u32 (b1 : Nat), .int .u64 (b2 : Nat)] 31) = W1 := ⟨_, rfl⟩
  have B1 := Lib.hid (show GrowS w W1 by rw [← hW1]; exact ((GrowS.refl w).alloc _).alloc _)
  have c0 : W1.cell? ⟨w.heap.size, 0, none⟩ = some (.int .u32 (a0 : Nat)) := by rw [← hW1]; simp [go_sem, ↓IntWalk.iteOmega]
  have c1 : W1.cell? ⟨w.heap.size, 1, none⟩ = some (.int .u32 (a1 : Nat)) := by rw [← hW1]; simp [go_sem, ↓IntWalk.iteOmega]
  have c2 : W1.cell? ⟨w.heap.size, 2, none⟩ = some (.int .u64 (a2 : Nat)) := by rw [← hW1]; simp [go_sem, ↓IntWalk.iteOmega]
  have d0 : W1.cell? ⟨w.heap.size + 1, 0, none⟩ = some (.int .u32 (b0 : Nat)) := by rw [← hW1]; simp [go_sem, ↓IntWalk.iteOmega]
  have d1 : W1.cell? ⟨w.heap.size + 1, 1, none⟩ = some (.int .u32 (b1 : Nat)) := by rw [← hW1]; simp [go_sem, ↓IntWalk.iteOmega]
  have d2 : W1.cell? ⟨w.heap.size + 1, 2, none⟩ = some (.int .u64 (b2 : Nat)) := by rw [← hW1]; simp [go_sem, ↓IntWalk.iteOmega]
  go_enter Try.func19, Try.ntmps19
  go_upto_region 1 with fail
  clear hW1
  go_region_held3 (fun w' => w'.cell? ⟨w.heap.size, 0, none⟩ = some (.int .u32 (a0 : Nat)) ∧ w'.cell? ⟨w.heap.size, 1, none⟩ = some (.int .u32 (a1 : Nat)) ∧ w'.cell? ⟨w.heap.size, 2, none⟩ = some (.int .u64 (a2 : Nat)) ∧ w'.cell? ⟨w.heap.size + 1, 0, none⟩ = some (.int .u32 (b0 : Nat)) ∧ w'.cell? ⟨w.heap.size + 1, 1, none⟩ = some (.int .u32 (b1 : Nat)) ∧ w'.cell? ⟨w.heap.size + 1, 2, none⟩ = some (.int .u64 (b2 : Nat)))
    (first | exact ⟨c0, c1, c2, d0, d1, d2⟩ | go_keep)
    (first
      | (go_at_call 27; (with_reducible refine (H64.out _).mono ?_); rintro e w' ⟨rfl, rfl⟩)
      | (go_at_call 28; (with_reducible refine (H32.out _).mono ?_); rintro e w' ⟨rfl, rfl⟩)
      | (go_at_call 28; (with_reducible refine (H33.out _).mono ?_); rintro e w' ⟨rfl, rfl⟩)
      | (go_at_call 26; refine (or3_any x y z _ _ _ ?_ ?_ ?_).mono ?_; (focus (simp; done)); (focus (simp; done)); (focus (simp; done)); rintro e w' ⟨rfl, rfl⟩)
      | fail "no arm")
  go_wp2_with fail
  go_ret
  exact ⟨rfl, (B1.out.alloc _).drew⟩
theorem order_any (a b : VisD) (w : World) : Calls Try.prog 19 #[.agg (visCs a).toArray, .agg (visCs b).toArray] w (RetB (.int .i64 (ordV a b)) w) :=
  (order_lay a b w).mono fun e w' h => ⟨h.1, h.2.below⟩

/-! ### the kept ones -/
def visRep : Rep VisD := Rep.prod Rep.u32 (Rep.prod Rep.u32 Rep.u64)
theorem visRep_ok {W : World} {fp : Nat → Prop} {x : VisD} (h : okV x) : visRep.ok W fp x (visCs x) := ⟨[_], [_, _], rfl, ⟨rfl, h.1⟩, [_], [_], rfl, ⟨rfl, h.2.1⟩, ⟨rfl, h.2.2⟩⟩
theorem RdS.vis {fp : Nat → Prop} {w : World} {ao : Option Addr} {l : List VisD} (h : RdS visRep fp w ao l) (k : Nat) (hk : k < l.length) :
    ∃ b off, ao = some ⟨b, off, none⟩ ∧ fp b ∧ b < w.heap.size ∧ w.cell? ⟨b, off + k * 3, none⟩ = some (.int .u32 ((vat l k).1 : Nat)) ∧ w.cell? ⟨b, off + k * 3 + 1, none⟩ = some (.int .u32 ((vat l k).2.1 : Nat)) ∧ w.cell? ⟨b, off + k * 3 + 2, none⟩ = some (.int .u64 ((vat l k).2.2 : Nat)) ∧ okV (vat l k) := by
  rw [vat_get hk]
  obtain ⟨b, off, cs, rfl, hf, hb, ⟨c, d, rfl, ⟨rfl, h1⟩, c2, d2, rfl, ⟨rfl, h2⟩, ⟨rfl, h3⟩⟩, hc⟩ := h.at k hk
  exact ⟨b, off, rfl, hf, hb, hc 0 (by decide), hc 1 (by decide), hc 2 (by decide), h1, h2, h3⟩
theorem visElem : Elem Try.prog 40 31 3 16 (.agg #[.int .u32 0, .int .u32 0, .int .u64 0]) := Elem.mk' Try.underlying40 (by kernel_rfl) rfl (by decide)
set_option maxHeartbeats 400000 in
theorem klen_any (ao : Option Addr) (n cap : Nat) (w : World) : Calls Try.prog 21 #[.slice ao n cap] w fun e w' => e = .returned (.int .i64 (n : Nat)) ∧ w' = w := by
  go_enter Try.func21, Try.ntmps21
  go_wp2
  go_ret
  exact ⟨rfl, rfl⟩
set_option maxRecDepth 100000 in
set_option maxHeartbeats 3200000 in
theorem kless_any (l : List VisD) (i j : Nat) (ao : Option Addr) (cap : Nat) (fp : Nat → Prop) (w : World) (hi : i < l.length) (hj : j < l.length) (hrd : RdS visRep fp w ao l) :
    Calls Try.prog 80 #[.slice ao l.length cap, .int .i64 (i : Nat), .int .i64 (j : Nat)] w (RetB (.bool (betV (vat l j) (vat l i))) w) := by
  obtain ⟨b, off, rfl, _, hb, x0, x1, x2, _⟩ := hrd.vis i hi
  obtain ⟨b', off', hab, _, _, y0, y1, y2, _⟩ := hrd.vis j hj
  cases hab
  have HO := Lib.hid (fun W => order_any (vat l i) (vat l j) W)
  have hg : decide (ordV (vat l i) (vat l j) > 0) = betV (vat l j) (vat l i) := by
    rw [Bool.eq_iff_iff, decide_eq_true_eq]; exact ordV_gt _ _
  have Hg := Lib.hid hg
  generalize betV (vat l j) (vat l i) = r at *
  generalize ordV (vat l i) (vat l j) = q at *
  generalize vat l i = X at *
  generalize vat l j = Y at *
  obtain ⟨X0, X1, X2⟩ := X
  obtain ⟨Y0, Y1, Y2⟩ := Y
  simp only [visCs] at x0 x1 x2 y0 y1 y2 HO
  have hir : (i : Int) < (l.length : Int) := by omega
  have hjr : (j : Int) < (l.length : Int) := by omega
  clear hg hrd
  go_enter Try.func80, Try.ntmps80
  go_upto_region 1 with fail
  go_region_held3 (fun w' => w'.cell? ⟨b, off + i * 3, none⟩ = some (.int .u32 (X0 : Nat)) ∧ w'.cell? ⟨b, off + i * 3 + 1, none⟩ = some (.int .u32 (X1 : Nat)) ∧ w'.cell? ⟨b, off + i * 3 + 2, none⟩ = some (.int .u64 (X2 : Nat)) ∧ w'.cell? ⟨b, off + j * 3, none⟩ = some (.int .u32 (Y0 : Nat)) ∧ w'.cell? ⟨b, off + j * 3 + 1, none⟩ = some (.int .u32 (Y1 : Nat)) ∧ w'.cell? ⟨b, off + j * 3 + 2, none⟩ = some (.int .u64 (Y2 : Nat)))
    (first | exact ⟨x0, x1, x2, y0, y1, y2⟩ | exact HP.out)
    (first
      | (go_at_call 19; (with_reducible refine (HO.out _).mono ?_); rintro e w2 ⟨rfl, hx⟩; have hy := (ext_drew w).trans hx; have HP := Lib.hid (show w2.cell? ⟨b, off + i * 3, none⟩ = some (.int .u32 (X0 : Nat)) ∧ w2.cell? ⟨b, off + i * 3 + 1, none⟩ = some (.int .u32 (X1 : Nat)) ∧ w2.cell? ⟨b, off + i * 3 + 2, none⟩ = some (.int .u64 (X2 : Nat)) ∧ w2.cell? ⟨b, off + j * 3, none⟩ = some (.int .u32 (Y0 : Nat)) ∧ w2.cell? ⟨b, off + j * 3 + 1, none⟩ = some (.int .u32 (Y1 : Nat)) ∧ w2.cell? ⟨b, off + j * 3 + 2, none⟩ = some (.int .u64 (Y2 : Nat)) from ⟨((bcell hy).1 _ _ hb).trans x0, ((bcell hy).1 _ _ hb).trans x1, ((bcell hy).1 _ _ hb).trans x2, ((bcell hy).1 _ _ hb).trans y0, ((bcell hy).1 _ _ hb).trans y1, ((bcell hy).1 _ _ hb).trans y2⟩); have B2 := Lib.hid hy; clear hx hy)
      | fail "no arm")
  go_wp2_with fail
  go_ret
  exact ⟨by rw [← Hg.out]; rfl, B2.out⟩
end Go.Proofs.Ytggcmnjllkncaaa
