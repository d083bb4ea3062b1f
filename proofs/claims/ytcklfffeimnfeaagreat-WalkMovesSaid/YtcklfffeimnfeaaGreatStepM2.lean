/- A mover's methods: accepts, sure, steps, lost. -/
import Derived.Test.YtcklfffeimnfeaaGreatBx14
namespace Go.Proofs.YtcklfffeimnfeaaGreat
set_option linter.unusedSimpArgs false
set_option linter.unusedVariables false
set_option maxRecDepth 100000
open Go.RowKit

theorem eq_u32 (a b : Nat) : ((a : Int) == (b : Int)) = (a == b) := by
  rw [Bool.eq_iff_iff]; simp only [beq_iff_eq]; omega
set_option maxHeartbeats 3200000 in
set_option maxRecDepth 100000 in
theorem maccepts_any (g : Nat) (x : WkD) (hx : WkOk x) (j : JobD) (hj : JobOk j) (tv : Nat) (near : Bool) (w : World) (h : MvS g x j w) :
    Calls Tryz.prog 46 #[.pointer (some ⟨g, 0, none⟩), .int .u32 (tv : Nat), .bool near] w (RetB (.bool (acceptsM j x tv near)) w) := by
  have hp := hj.p
  have hq := hj.q
  have htr := hx.try_
  have hpq : j.p * j.q ≤ 4294967295 * 4294967295 := Nat.mul_le_mul (by omega) (by omega)
  have HT := Lib.hid (fun W (hB : Below w.heap.size w W) => test_any g x hx j x.try_ (j.p * j.q) hx.try_ (by omega) W (h.ext hB))
  have HS := Lib.hid (fun W => scale_any j.p j.q hp hq W)
  have HA := Lib.hid (fun W => baccepts_any j.p j.q hp hq (tv == x.prev) near (drwN j x (2 * x.try_) (j.p * j.q)) W)
  have H0 := Lib.hid (h.ext (ext_drew w))
  have HK := Lib.hid (fun W (hB : Below w.heap.size w W) => h.ext hB)
  unfold acceptsM
  generalize drwN j x (2 * x.try_) (j.p * j.q) = u at *
  have hpq2 : j.p * j.q < 18446744073709551616 := by omega
  clear hpq h hx hj
  by_cases hbk : tv = x.prev
  · have b1 : ((tv : Int) == (x.prev : Int)) = true := by rw [hbk]; simp
    have b2 : (tv == x.prev) = true := by rw [hbk]; simp
    rw [b2] at HA ⊢
    clear hbk
    generalize weightN j.p j.q true near = wt at *
    obtain ⟨d0, d1, d2, d3, d4, d5, d6, d7, d8, d12, d13, d14, d15, d16, _⟩ := H0.out
    clear d0 d1 d2 d4 d6 d7 d8 d12 d13 d16
    have HKc := Lib.hid (fun W (hB : Below w.heap.size w W) => (show W.cell? ⟨g, 3, none⟩ = some (.int .u32 (x.prev : Nat)) ∧ W.cell? ⟨g, 5, none⟩ = some (.int .u32 (x.try_ : Nat)) ∧ W.cell? ⟨g, 14, none⟩ = some (.int .u32 (j.p : Nat)) ∧ W.cell? ⟨g, 15, none⟩ = some (.int .u32 (j.q : Nat)) from ⟨(HK.out W hB).c3, (HK.out W hB).c5, (HK.out W hB).c14, (HK.out W hB).c15⟩))
    clear H0 HK
    generalize x.prev = pv at *
    generalize x.try_ = tr at *
    generalize j.p * j.q = pq at *
    generalize j.p = p at *
    generalize j.q = q at *
    go_enter Tryz.func46, Tryz.ntmps46
    go_wp2_with fail
    go_region_held3 (fun w' => w'.cell? ⟨g, 3, none⟩ = some (.int .u32 (pv : Nat)) ∧ w'.cell? ⟨g, 5, none⟩ = some (.int .u32 (tr : Nat)) ∧ w'.cell? ⟨g, 14, none⟩ = some (.int .u32 (p : Nat)) ∧ w'.cell? ⟨g, 15, none⟩ = some (.int .u32 (q : Nat)))
      (first | exact ⟨d3, d5, d14, d15⟩ | exact HP1.out)
      (first
        | (go_at_call 89; (with_reducible refine (HS.out _).mono ?_); rintro e w1 ⟨rfl, rfl⟩)
        | (go_at_call 88; (with_reducible refine (HT.out _ (ext_drew w)).mono ?_); rintro e w2 ⟨rfl, hB⟩; have HP1 := Lib.hid (HKc.out _ ((ext_drew w).trans hB)); have B2 := Lib.hid ((ext_drew w).trans hB); clear hB)
        | (go_at_call 87; (with_reducible refine (HA.out _).mono ?_); rintro e w3 ⟨rfl, rfl⟩)
        | fail "no arm")
    go_wp2_with fail
    go_ret
    exact ⟨rfl, B2.out⟩
  · have b1 : ((tv : Int) == (x.prev : Int)) = false := beq_eq_false_iff_ne.2 (by omega)
    have b2 : (tv == x.prev) = false := beq_eq_false_iff_ne.2 hbk
    rw [b2] at HA ⊢
    clear hbk
    generalize weightN j.p j.q false near = wt at *
    obtain ⟨d0, d1, d2, d3, d4, d5, d6, d7, d8, d12, d13, d14, d15, d16, _⟩ := H0.out
    clear d0 d1 d2 d4 d6 d7 d8 d12 d13 d16
    have HKc := Lib.hid (fun W (hB : Below w.heap.size w W) => (show W.cell? ⟨g, 3, none⟩ = some (.int .u32 (x.prev : Nat)) ∧ W.cell? ⟨g, 5, none⟩ = some (.int .u32 (x.try_ : Nat)) ∧ W.cell? ⟨g, 14, none⟩ = some (.int .u32 (j.p : Nat)) ∧ W.cell? ⟨g, 15, none⟩ = some (.int .u32 (j.q : Nat)) from ⟨(HK.out W hB).c3, (HK.out W hB).c5, (HK.out W hB).c14, (HK.out W hB).c15⟩))
    clear H0 HK
    generalize x.prev = pv at *
    generalize x.try_ = tr at *
    generalize j.p * j.q = pq at *
    generalize j.p = p at *
    generalize j.q = q at *
    go_enter Tryz.func46, Tryz.ntmps46
    go_wp2_with fail
    go_region_held3 (fun w' => w'.cell? ⟨g, 3, none⟩ = some (.int .u32 (pv : Nat)) ∧ w'.cell? ⟨g, 5, none⟩ = some (.int .u32 (tr : Nat)) ∧ w'.cell? ⟨g, 14, none⟩ = some (.int .u32 (p : Nat)) ∧ w'.cell? ⟨g, 15, none⟩ = some (.int .u32 (q : Nat)))
      (first | exact ⟨d3, d5, d14, d15⟩ | exact HP1.out)
      (first
        | (go_at_call 89; (with_reducible refine (HS.out _).mono ?_); rintro e w1 ⟨rfl, rfl⟩)
        | (go_at_call 88; (with_reducible refine (HT.out _ (ext_drew w)).mono ?_); rintro e w2 ⟨rfl, hB⟩; have HP1 := Lib.hid (HKc.out _ ((ext_drew w).trans hB)); have B2 := Lib.hid ((ext_drew w).trans hB); clear hB)
        | (go_at_call 87; (with_reducible refine (HA.out _).mono ?_); rintro e w3 ⟨rfl, rfl⟩)
        | fail "no arm")
    go_wp2_with fail
    go_ret
    exact ⟨rfl, B2.out⟩
set_option maxHeartbeats 3200000 in
set_option maxRecDepth 100000 in
theorem msure_any (g : Nat) (x : WkD) (hx : WkOk x) (j : JobD) (hj : JobOk j) (tv : Nat) (w : World) (h : MvS g x j w) :
    Calls Tryz.prog 54 #[.pointer (some ⟨g, 0, none⟩), .int .u32 (tv : Nat)] w (RetB (.tuple #[.bool (acceptsM j x tv true && acceptsM j x tv false), .bool (acceptsM j x tv true == acceptsM j x tv false)]) w) := by
  have hp := hj.p
  have hq := hj.q
  have htr := hx.try_
  have hpq : j.p * j.q ≤ 4294967295 * 4294967295 := Nat.mul_le_mul (by omega) (by omega)
  have HT := Lib.hid (fun W (hB : Below w.heap.size w W) => test_any g x hx j x.try_ (j.p * j.q) hx.try_ (by omega) W (h.ext hB))
  have HS := Lib.hid (fun W => scale_any j.p j.q hp hq W)
  have HA := Lib.hid (fun W => bsure_any j.p j.q hp hq (tv == x.prev) (drwN j x (2 * x.try_) (j.p * j.q)) (acceptsM j x tv true) (acceptsM j x tv false) rfl rfl W)
  have H0 := Lib.hid (h.ext (ext_drew w))
  have HK := Lib.hid (fun W (hB : Below w.heap.size w W) => h.ext hB)
  generalize acceptsM j x tv true = aa at *
  generalize acceptsM j x tv false = ab at *
  generalize drwN j x (2 * x.try_) (j.p * j.q) = u at *
  clear hpq h hx hj
  by_cases hbk : tv = x.prev
  · have b1 : ((tv : Int) == (x.prev : Int)) = true := by rw [hbk]; simp
    have b2 : (tv == x.prev) = true := by rw [hbk]; simp
    rw [b2] at HA
    clear hbk
    obtain ⟨d0, d1, d2, d3, d4, d5, d6, d7, d8, d12, d13, d14, d15, d16, _⟩ := H0.out
    clear d0 d1 d2 d4 d6 d7 d8 d12 d13 d16
    have HKc := Lib.hid (fun W (hB : Below w.heap.size w W) => (show W.cell? ⟨g, 3, none⟩ = some (.int .u32 (x.prev : Nat)) ∧ W.cell? ⟨g, 5, none⟩ = some (.int .u32 (x.try_ : Nat)) ∧ W.cell? ⟨g, 14, none⟩ = some (.int .u32 (j.p : Nat)) ∧ W.cell? ⟨g, 15, none⟩ = some (.int .u32 (j.q : Nat)) from ⟨(HK.out W hB).c3, (HK.out W hB).c5, (HK.out W hB).c14, (HK.out W hB).c15⟩))
    clear H0 HK
    generalize x.prev = pv at *
    generalize x.try_ = tr at *
    generalize j.p * j.q = pq at *
    generalize j.p = p at *
    generalize j.q = q at *
    go_enter Tryz.func54, Tryz.ntmps54
    go_wp2_with fail
    go_region_held3 (fun w' => w'.cell? ⟨g, 3, none⟩ = some (.int .u32 (pv : Nat)) ∧ w'.cell? ⟨g, 5, none⟩ = some (.int .u32 (tr : Nat)) ∧ w'.cell? ⟨g, 14, none⟩ = some (.int .u32 (p : Nat)) ∧ w'.cell? ⟨g, 15, none⟩ = some (.int .u32 (q : Nat)))
      (first | exact ⟨d3, d5, d14, d15⟩ | exact HP1.out)
      (first
        | (go_at_call 89; (with_reducible refine (HS.out _).mono ?_); rintro e w1 ⟨rfl, rfl⟩)
        | (go_at_call 88; (with_reducible refine (HT.out _ (ext_drew w)).mono ?_); rintro e w2 ⟨rfl, hB⟩; have HP1 := Lib.hid (HKc.out _ ((ext_drew w).trans hB)); have B2 := Lib.hid ((ext_drew w).trans hB); clear hB)
        | (go_at_call 91; (with_reducible refine (HA.out _).mono ?_); rintro e w3 ⟨rfl, rfl⟩)
        | fail "no arm")
    go_wp2_with fail
    go_ret2
    exact ⟨rfl, B2.out⟩
  · have b1 : ((tv : Int) == (x.prev : Int)) = false := beq_eq_false_iff_ne.2 (by omega)
    have b2 : (tv == x.prev) = false := beq_eq_false_iff_ne.2 hbk
    rw [b2] at HA
    clear hbk
    obtain ⟨d0, d1, d2, d3, d4, d5, d6, d7, d8, d12, d13, d14, d15, d16, _⟩ := H0.out
    clear d0 d1 d2 d4 d6 d7 d8 d12 d13 d16
    have HKc := Lib.hid (fun W (hB : Below w.heap.size w W) => (show W.cell? ⟨g, 3, none⟩ = some (.int .u32 (x.prev : Nat)) ∧ W.cell? ⟨g, 5, none⟩ = some (.int .u32 (x.try_ : Nat)) ∧ W.cell? ⟨g, 14, none⟩ = some (.int .u32 (j.p : Nat)) ∧ W.cell? ⟨g, 15, none⟩ = some (.int .u32 (j.q : Nat)) from ⟨(HK.out W hB).c3, (HK.out W hB).c5, (HK.out W hB).c14, (HK.out W hB).c15⟩))
    clear H0 HK
    generalize x.prev = pv at *
    generalize x.try_ = tr at *
    generalize j.p * j.q = pq at *
    generalize j.p = p at *
    generalize j.q = q at *
    go_enter Tryz.func54, Tryz.ntmps54
    go_wp2_with fail
    go_region_held3 (fun w' => w'.cell? ⟨g, 3, none⟩ = some (.int .u32 (pv : Nat)) ∧ w'.cell? ⟨g, 5, none⟩ = some (.int .u32 (tr : Nat)) ∧ w'.cell? ⟨g, 14, none⟩ = some (.int .u32 (p : Nat)) ∧ w'.cell? ⟨g, 15, none⟩ = some (.int .u32 (q : Nat)))
      (first | exact ⟨d3, d5, d14, d15⟩ | exact HP1.out)
      (first
        | (go_at_call 89; (with_reducible refine (HS.out _).mono ?_); rintro e w1 ⟨rfl, rfl⟩)
        | (go_at_call 88; (with_reducible refine (HT.out _ (ext_drew w)).mono ?_); rintro e w2 ⟨rfl, hB⟩; have HP1 := Lib.hid (HKc.out _ ((ext_drew w).trans hB)); have B2 := Lib.hid ((ext_drew w).trans hB); clear hB)
        | (go_at_call 91; (with_reducible refine (HA.out _).mono ?_); rintro e w3 ⟨rfl, rfl⟩)
        | fail "no arm")
    go_wp2_with fail
    go_ret2
    exact ⟨rfl, B2.out⟩
end Go.Proofs.YtcklfffeimnfeaaGreat
