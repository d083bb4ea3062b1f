/- The walks of package mix, its reference and its statements' example: mixing, drawing. -/
import Derived.Test.YtockfbmhpdmlgaaBase
import Derived.Test.YtockfbmhpdmlgaaChecked
import Derived.Deep.QuietTactic
import Derived.BigQuiet
import Derived.Deep.RegionHeld3
namespace Go.Proofs.Ytockfbmhpdmlgaa
open Go.RowKit

def shx (k : Int) (n : Int) : Int := bits BinOp.xor IntKind.u64 n (n / k)
def mixZ (n : Int) : Int :=
  shx 2147483648 (IntKind.u64.wrap (shx 134217728 (IntKind.u64.wrap (shx 1073741824 (IntKind.u64.wrap (n + 11400714819323198485)) * 13787848793156543929)) * 10723151780598845931))

set_option maxHeartbeats 400000 in
theorem mix_any (n : Int) (w : World) :
    Calls Try.prog 8 #[.int .u64 n] w fun e w' => e = .returned (.int .u64 (mixZ n)) ∧ w = w' := by
  go_enter Try.func8, Try.ntmps8
  go_wp2
  go_ret
  exact ⟨rfl, rfl⟩

set_option maxHeartbeats 400000 in
theorem rmix_any (n : Int) (w : World) :
    Calls Try.prog 9 #[.int .u64 n] w fun e w' => e = .returned (.int .u64 (mixZ n)) ∧ w = w' := by
  go_enter Try.func9, Try.ntmps9
  go_wp2
  go_ret
  exact ⟨by simp [u64_quo_w, mixZ, shx], rfl⟩

set_option maxHeartbeats 400000 in
theorem awake01_any (w : World) :
    Calls Try.prog 12 #[] w fun e w' => e = .returned (.bool true) ∧ w = w' := by
  go_enter Try.func12, Try.ntmps12
  go_wp2_with (go_at_call 8; refine (mix_any _ _).mono ?_; rintro e w' ⟨rfl, rfl⟩)
  go_ret
  exact ⟨by rw [show mixZ 0 = 16294208416658607535 from by decide +kernel]; rfl, rfl⟩

def drawZ (s w t a : Int) : Int := mixZ (bits BinOp.xor IntKind.u64 (mixZ (bits BinOp.xor IntKind.u64 (mixZ (bits BinOp.xor IntKind.u64 (mixZ s) w)) t)) a)

set_option maxHeartbeats 400000 in
theorem draw_any (s k t a : Int) (w : World) :
    Calls Try.prog 10 #[.agg #[.int .u64 s, .int .u64 k, .int .u64 t, .int .u64 a]] w fun e w' => e = .returned (.int .u64 (drawZ s k t a)) ∧ Below w.heap.size w w' := by
  go_enter Try.func10, Try.ntmps10
  go_wp2_with fail
  go_quiet ((go_at_call 8; exact Calls.quiet_of_same ((mix_any _ _).mono fun _ _ ⟨h, k⟩ => ⟨h, k.symm⟩)))
  go_wp2
  go_ret
  exact ⟨rfl, below_drewN (ext_alloc _ _) _⟩

set_option maxHeartbeats 400000 in
theorem rdraw_any (s k t a : Int) (w : World) :
    Calls Try.prog 11 #[.agg #[.int .u64 s, .int .u64 k, .int .u64 t, .int .u64 a]] w fun e w' => e = .returned (.int .u64 (drawZ s k t a)) ∧ Below w.heap.size w w' := by
  go_enter Try.func11, Try.ntmps11
  go_wp2_with (go_at_call 9; refine (rmix_any _ _).mono ?_; rintro e w' ⟨rfl, rfl⟩)
  go_ret
  exact ⟨rfl, ext_alloc _ _⟩
end Go.Proofs.Ytockfbmhpdmlgaa
