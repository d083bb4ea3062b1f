/- Small lemmas of my own: worlds that extend one another, unsigned numbers; no program in sight. -/
import Derived.WalkKit
import Derived.ProofKit
import Derived.WalkSmall
import Derived.Lib.Hide
import Derived.Deep.QuietTactic
import Derived.BigQuiet
import Derived.Deep.RegionHeld3
import Derived.Deep.DeepCutAuto
namespace Go.Proofs.Ytockfbmhpdmlgaa
set_option linter.unusedSimpArgs false
set_option linter.unusedVariables false
open Go.RowKit

/-- What a call that only makes memory leaves: old cells and old marks read as before. -/
theorem bcell {B : Nat} {W w1 : World} (hb : Below B W w1) : (∀ b o, b < B → w1.cell? ⟨b, o, none⟩ = W.cell? ⟨b, o, none⟩) ∧ (∀ b o, b < B → w1.frozen? ⟨b, o, none⟩ = W.frozen? ⟨b, o, none⟩) :=
  ⟨fun b o h => hb.cell (p := ⟨b, o, none⟩) h, fun b o h => hb.frozen (p := ⟨b, o, none⟩) h⟩

theorem bhc {B : Nat} {W w1 : World} (hb : Below B W w1) : ∀ b o, b < B → w1.cell? ⟨b, o, none⟩ = W.cell? ⟨b, o, none⟩ := fun b o h => hb.cell (p := ⟨b, o, none⟩) h

/-- An extension: nothing that was there has turned. -/
theorem ext_trans {a b c : World} (h : Below a.heap.size a b) (k : Below b.heap.size b c) : Below a.heap.size a c :=
  h.trans (k.mono h.size)
theorem ext_alloc (w : World) (o : Obj) : Below w.heap.size w (w.alloc o) := (Below.refl _ _).alloc (Nat.le_refl _) _
theorem ext_drewN (w : World) (n : Nat) : Below w.heap.size w (w.drewN n) := below_drewN (Below.refl _ _) n
theorem ext_drew (w : World) : Below w.heap.size w w.drew := (Below.refl _ _).drew

theorem u64_bd (n : Int) : 0 ≤ IntKind.u64.wrap n ∧ IntKind.u64.wrap n ≤ 18446744073709551615 := by
  simp [IntKind.wrap, IntKind.bits, IntKind.signed]; omega
theorem u64_quo_w (n c : Int) (h : 1 ≤ c) : IntKind.u64.wrap ((IntKind.u64.wrap n).tdiv c) = IntKind.u64.wrap n / c :=
  IntWalk.u64_quo _ _ ⟨(u64_bd n).1, (u64_bd n).2, h⟩
theorem u64_mod (n : Int) : IntKind.u64.wrap n = n % 18446744073709551616 := by
  simp [IntKind.wrap, IntKind.bits, IntKind.signed]
end Go.Proofs.Ytockfbmhpdmlgaa
