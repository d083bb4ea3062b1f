/- The reference's Better, Same; visits compared; the law's visits of one source. -/
import Derived.Test.YtggcmnjllkncaaaBestEach
namespace Go.Proofs.Ytggcmnjllkncaaa
set_option linter.unusedSimpArgs false
set_option linter.unusedVariables false
set_option maxRecDepth 100000
open Go.RowKit

theorem visCs_inj {x y : VisD} (h : visCs x = visCs y) : x = y := by
  obtain ⟨a, b, c⟩ := x
  obtain ⟨a', b', c'⟩ := y
  simp only [visCs, List.cons.injEq, Value.int.injEq, true_and, and_true] at h
  obtain ⟨h1, h2, h3⟩ := h
  have e1 : a = a' := by omega
  have e2 : b = b' := by omega
  have e3 : c = c' := by omega
  rw [e1, e2, e3]
theorem vis_eq (x y : VisD) : ((x.1 : Int) == (y.1 : Int) && ((x.2.1 : Int) == (y.2.1 : Int) && (x.2.2 : Int) == (y.2.2 : Int))) = decide (x = y) := by
  obtain ⟨a, b, c⟩ := x
  obtain ⟨a', b', c'⟩ := y
  rw [Bool.eq_iff_iff]
  simp only [Bool.and_eq_true, beq_iff_eq, decide_eq_true_eq, Prod.mk.injEq]
  omega
set_option maxHeartbeats 1600000 in
theorem eq_visit (x y : VisD) (w : World) : (Op.equalIn 10000 31 (.agg (visCs x).toArray) (.agg (visCs y).toArray)).run Try.prog w = .ok (decide (x = y)) w := by
  rw [← vis_eq]
  have u3 := Try.underlying23
  have a3 := Try.isAgg23
  have z3 := Try.sizeOf23
  have u4 := Try.underlying29
  have a4 := Try.isAgg29
  have z4 := Try.sizeOf29
  unfold visCs
  generalize (x.1 : Int) = a1
  generalize (x.2.1 : Int) = a2
  generalize (x.2.2 : Int) = a3
  generalize (y.1 : Int) = b1
  generalize (y.2.1 : Int) = b2
  generalize (y.2.2 : Int) = b3
  have hS : Try.prog.underlying 31 = some (.struct (Try.prog.fieldsOf 31)) := by kernel_rfl
  rw [show (10000 : Nat) = 9999 + 1 from rfl, run_equalIn_agg w 9999 31 _ _ hS (by kernel_rfl)]
  simp only [Program.fieldsOf, Try.underlying31]
  go_simp
  by_cases h1 : a1 = b1 <;> simp [h1]
  by_cases h2 : a2 = b2 <;> simp [h2]
  by_cases h3 : a3 = b3 <;> simp [h3]
set_option maxHeartbeats 1600000 in
theorem eql_visit (x y : VisD) (w : World) : (binOp .eql 31 (.agg (visCs x).toArray) (.agg (visCs y).toArray)).run Try.prog w = .ok (.bool (decide (x = y))) w := by
  have h : (Op.equalIn Op.maxDepth 31 (.agg (visCs x).toArray) (.agg (visCs y).toArray)).run Try.prog w = .ok (decide (x = y)) w := eq_visit x y w
  simp [binOp, Op.equal, h, Result.andThen]
set_option maxHeartbeats 1600000 in
theorem neq_visit (x y : VisD) (w : World) : (binOp .neq 31 (.agg (visCs x).toArray) (.agg (visCs y).toArray)).run Try.prog w = .ok (.bool (!decide (x = y))) w := by
  have h : (Op.equalIn Op.maxDepth 31 (.agg (visCs x).toArray) (.agg (visCs y).toArray)).run Try.prog w = .ok (decide (x = y)) w := eq_visit x y w
  simp [binOp, Op.equal, h, Result.andThen]
set_option maxRecDepth 100000 in
set_option maxHeartbeats 1600000 in
theorem rbetter_any (x y : VisD) (w : World) : Calls Try.prog 17 #[.agg (visCs x).toArray, .agg (visCs y).toArray] w (RetB (.bool (betR x y)) w) := by
  obtain ⟨a0, a1, a2⟩ := x
  obtain ⟨b0, b1, b2⟩ := y
  have hr : betR (a0, a1, a2) (b0, b1, b2) = if a2 = b2 then decide (a1 < b1) else decide (b2 < a2) := by
    unfold betR
    rw [Bool.eq_iff_iff]
    simp only [decide_eq_true_eq]
    split <;> simp only [decide_eq_true_eq] <;> omega
  rw [hr]
  clear hr
  simp only [visCs]
  by_cases h : a2 = b2
  · subst h
    have e1 : ((a2 : Int) != (a2 : Int)) = false := by simp
    rw [if_pos rfl]
    go_enter Try.func17, Try.ntmps17
    go_wp2_with fail
    go_ret
    exact ⟨rfl, (ext_alloc w _).alloc (by simp) _⟩
  · have e1 : ((a2 : Int) != (b2 : Int)) = true := bne_iff_ne.2 (by omega)
    rw [if_neg h]
    go_enter Try.func17, Try.ntmps17
    go_wp2_with fail
    go_ret
    exact ⟨rfl, (ext_alloc w _).alloc (by simp) _⟩
def sameV (n : Nat) (w : World) (i : Value) (wr : World) : Prop := ∃ k m : Nat, k ≤ n ∧ i = .int .i64 (k : Nat) ∧ wr = w.drewN m
set_option maxRecDepth 100000 in
set_option maxHeartbeats 1600000 in
theorem vsame27_any (l : List VisD) (ao bo : Option Addr) (ca cb : Nat) (fa fb : Nat → Prop) (w : World) (hl : l.length ≤ 1000000) (ha : RdS visRep fa w ao l) (hb : RdS visRep fb w bo l) :
    Calls Try.prog 13 #[.slice ao l.length ca, .slice bo l.length cb] w fun e w' => e = .returned (.bool true) ∧ ∃ m, w' = w.drewN m := by
  have hne : ((l.length : Int) != (l.length : Int)) = false := by simp
  have Ha := Lib.hid ha
  have Hb := Lib.hid hb
  clear ha hb
  go_enter Try.func13, Try.ntmps13
  go_wp2_with fail
  go_loopw [5, 13] (fun v i wr => sameV l.length w i wr) (fun _ i _ => l.length - (intOf i).toNat)
  case atStart => exact ⟨0, 0, by omega, rfl, rfl⟩
  case round =>
    obtain ⟨k, m, hk, rfl, rfl⟩ := hrel
    by_cases hlt : k < l.length
    · obtain ⟨ba, oa, rfl, _, hba, ca0, ca1, ca2, _⟩ := Ha.out.vis k hlt
      obtain ⟨bb, ob, rfl, _, hbb, cb0, cb1, cb2, _⟩ := Hb.out.vis k hlt
      have hir : (k : Int) < (l.length : Int) := by omega
      generalize vat l k = x at *
      have hx := fun W => neq_visit x x W
      simp only [decide_true, Bool.not_true, visCs] at hx
      obtain ⟨x0, x1, x2⟩ := x
      simp only at hx ca0 ca1 ca2 cb0 cb1 cb2
      go_wp2_with fail
      go_quiet (fail)
      go_wp2_with fail
      go_roundw
      case rel => exact ⟨k + 1, _, by omega, by go_num, rfl⟩
      case measure => simp [intOf]; omega
    · obtain rfl : k = l.length := by omega
      go_wp2_with fail
      go_ret
      exact ⟨rfl, _, rfl⟩
end Go.Proofs.Ytggcmnjllkncaaa
