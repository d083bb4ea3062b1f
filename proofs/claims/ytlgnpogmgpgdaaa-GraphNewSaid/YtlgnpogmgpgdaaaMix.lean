/- The walks of package mix, its reference and its statements' example: mixing, drawing. -/
import Derived.Test.YtlgnpogmgpgdaaaMixPlain
import Derived.Test.YtlgnpogmgpgdaaaProg
import Derived.Deep.QuietTactic
import Derived.BigQuiet
import Derived.Deep.RegionHeld3
namespace Go.Proofs.Ytlgnpogmgpgdaaa
set_option linter.unusedSimpArgs false
set_option linter.unusedVariables false
set_option maxRecDepth 100000
open Go.RowKit

set_option maxHeartbeats 400000 in
theorem mix_any (n : Int) (w : World) :
    Calls Try.prog 105 #[.int .u64 n] w fun e w' => e = .returned (.int .u64 (mixZ n)) ∧ w = w' := by
  go_enter Try.func105, Try.ntmps105
  go_wp2
  go_ret
  exact ⟨rfl, rfl⟩



set_option maxHeartbeats 400000 in
theorem draw_any (s k t a : Int) (w : World) :
    Calls Try.prog 104 #[.agg #[.int .u64 s, .int .u64 k, .int .u64 t, .int .u64 a]] w fun e w' => e = .returned (.int .u64 (drawZ s k t a)) ∧ Below w.heap.size w w' := by
  go_enter Try.func104, Try.ntmps104
  go_wp2_with fail
  go_quiet ((go_at_call 105; exact Calls.quiet_of_same ((mix_any _ _).mono fun _ _ ⟨h, k⟩ => ⟨h, k.symm⟩)))
  go_wp2
  go_ret
  exact ⟨rfl, below_drewN (ext_alloc _ _) _⟩


theorem tape_guard : Try.prog.eqGuardType Try.prog.depth 97 = false := by kernel_rfl
theorem tape_fields : Try.prog.underlying 97 = some (.struct (Try.prog.fieldsOf 97)) := by kernel_rfl
theorem tape_stood : Try.prog.stoodInHeld 97 = false := by kernel_rfl
theorem tape_eql (s k t a s' k' t' a' : Int) (w : World) :
    (binOp .eql 97 (.agg #[.int .u64 s, .int .u64 k, .int .u64 t, .int .u64 a]) (.agg #[.int .u64 s', .int .u64 k', .int .u64 t', .int .u64 a'])).run Try.prog w = .ok (.bool (s == s' && (k == k' && (t == t' && a == a')))) w := by
  rw [run_eql_struct, run_equalIn_agg _ _ _ _ _ tape_fields tape_stood]
  have hF : (Try.prog.fieldsOf 97).toList.map (fun f => (f.name, f.type, f.offset)) = [("Seed", 22, 0), ("Walker", 22, 1), ("Step", 22, 2), ("Attempt", 22, 3)] := by kernel_rfl
  have key : ∀ (x y : Int) (d : Nat), (Op.equalIn (d + 1) 22 (.int .u64 x) (.int .u64 y)).run Try.prog w = .ok (x == y) w := fun x y d => run_equalIn_int w d _ _ _ _ _ Try.underlying22
  by_cases h1 : s = s'
  · subst h1
    by_cases h2 : k = k'
    · subst h2
      by_cases h3 : t = t'
      · subst h3
        by_cases h4 : a = a'
        · subst h4; simp [go_sem]
        · have e4 : (a == a') = false := by simpa using h4
          simp [go_sem, e4, h4]
      · have e3 : (t == t') = false := by simpa using h3
        simp [go_sem, e3, h3]
    · have e2 : (k == k') = false := by simpa using h2
      simp [go_sem, e2, h2]
  · have e1 : (s == s') = false := by simpa using h1
    simp [go_sem, e1, h1]
end Go.Proofs.Ytlgnpogmgpgdaaa
