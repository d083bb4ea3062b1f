/- Arcs and cells among the arguments. -/
import Derived.Test.YtlgnpogmgpgdaaaBdPick
import Derived.Test.YtlgnpogmgpgdaaaJobOpen
namespace Go.Proofs.Ytlgnpogmgpgdaaa
set_option linter.unusedSimpArgs false
set_option linter.unusedVariables false
set_option maxRecDepth 100000
open Go.RowKit
theorem arc_opens1 : Opens Try.prog (Rep.prod Rep.u32 (Rep.prod Rep.u32 Rep.unit)) 42 := by
  have hu := opens_u32 (P := Try.prog) Try.underlying23 (by kernel_rfl)
  exact opens_struct (P := Try.prog) Try.underlying42 (by kernel_rfl) (.cons (by kernel_rfl) hu (.cons (by kernel_rfl) hu .nil))
theorem cell_opens1 : Opens Try.prog (Rep.prod Rep.u64 (Rep.prod Rep.u32 Rep.unit)) 85 := by
  have hu := opens_u32 (P := Try.prog) Try.underlying23 (by kernel_rfl)
  have h64 := opens_u64 (P := Try.prog) Try.underlying22 (by kernel_rfl)
  exact opens_struct (P := Try.prog) Try.underlying85 (by kernel_rfl) (.cons (by kernel_rfl) h64 (.cons (by kernel_rfl) hu .nil))
/-- a pair, less the unit behind it -/
theorem RdS.unpair {R S : Rep Nat} {fp : Nat → Prop} {w : World} {ao : Option Addr} {m : List (Nat × Nat × Unit)} (h : RdS (Rep.prod R (Rep.prod S Rep.unit)) fp w ao m) :
    RdS (Rep.prod R S) fp w ao (m.map (fun t => (t.1, t.2.1))) := by
  rcases h with rfl | ⟨b, off, h1, h2, h3, h4⟩
  · exact .inl rfl
  · refine .inr ⟨b, off, h1, h2, h3, fun j x hx => ?_⟩
    rw [List.getElem?_map] at hx
    obtain ⟨t, ht, rfl⟩ := Option.map_eq_some_iff.1 hx
    obtain ⟨cs, ⟨c, d, rfl, h5, e, f, rfl, h6, rfl⟩, h7⟩ := h4 j t ht
    exact ⟨c ++ e, ⟨c, e, rfl, h5, h6⟩, fun i hi => by
      have := h7 i hi
      rw [List.append_nil] at this
      exact this⟩
end Go.Proofs.Ytlgnpogmgpgdaaa
