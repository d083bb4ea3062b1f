/- A job among the arguments. -/
import Derived.Test.YtmflopeedofkhaaByJobM
import Derived.Test.YtmflopeedofkhaaLaw
namespace Go.Proofs.Ytmflopeedofkhaa
set_option linter.unusedSimpArgs false
set_option linter.unusedVariables false
set_option maxRecDepth 100000
open Go.RowKit
def budRep : Rep (Nat × Nat × Nat × Nat × Unit) := Rep.prod Rep.u32 (Rep.prod Rep.u32 (Rep.prod Rep.u32 (Rep.prod Rep.u32 Rep.unit)))
theorem bud_opens : Opens Try.prog budRep 28 := by
  have hu := opens_u32 (P := Try.prog) Try.underlying25 (by kernel_rfl)
  exact opens_struct (P := Try.prog) Try.underlying28 (by kernel_rfl) (.cons (by kernel_rfl) hu (.cons (by kernel_rfl) hu (.cons (by kernel_rfl) hu (.cons (by kernel_rfl) hu .nil))))
def wkRep : Rep (Nat × Nat × Nat × Nat × Nat × Nat × Nat × Unit) := Rep.prod Rep.u32 (Rep.prod Rep.u32 (Rep.prod Rep.u32 (Rep.prod Rep.u32 (Rep.prod Rep.u32 (Rep.prod Rep.u32 (Rep.prod Rep.u32 Rep.unit))))))
abbrev U := Rep.u32
def jobRep : Rep (UInt8 × Nat × Nat × Nat × List Nat × Nat × Nat × Nat × Nat × Nat × Nat × (Nat × Nat × Nat × Nat × Unit) × Unit) :=
  Rep.prod Rep.u8 (Rep.prod Rep.u64 (Rep.prod U (Rep.prod U (Rep.prod (Rep.slice U) (Rep.prod U (Rep.prod U (Rep.prod U (Rep.prod U (Rep.prod U (Rep.prod U (Rep.prod budRep Rep.unit)))))))))))
theorem job_opens : Opens Try.prog jobRep 30 := by
  have hu := opens_u32 (P := Try.prog) Try.underlying25 (by kernel_rfl)
  have h8 := opens_u8 (P := Try.prog) Try.underlying5 (by kernel_rfl)
  have h64 := opens_u64 (P := Try.prog) Try.underlying24 (by kernel_rfl)
  have hs := opens_slice (P := Try.prog) Try.underlying26 (by kernel_rfl) (by decide) hu
  exact opens_struct (P := Try.prog) Try.underlying30 (by kernel_rfl) (.cons (by kernel_rfl) h8 (.cons (by kernel_rfl) h64 (.cons (by kernel_rfl) hu (.cons (by kernel_rfl) hu (.cons (by kernel_rfl) hs (.cons (by kernel_rfl) hu (.cons (by kernel_rfl) hu (.cons (by kernel_rfl) hu (.cons (by kernel_rfl) hu (.cons (by kernel_rfl) hu (.cons (by kernel_rfl) hu (.cons (by kernel_rfl) bud_opens .nil))))))))))))
theorem RdS.rdU32 {fp : Nat → Prop} {w : World} {ao : Option Addr} {l : List Nat} (h : RdS Rep.u32 fp w ao l) : Rd w ao l.length (u32s l) ∧ ∀ x ∈ l, x < 4294967296 := by
  refine ⟨⟨by simp [u32s], ?_⟩, fun x hx => ?_⟩
  · rcases h with h | ⟨b, off, h1, h2, h3, h4⟩
    · subst h; exact .inl rfl
    · refine .inr ⟨b, off, h1, h3, fun j hj => ?_⟩
      obtain ⟨cs, ⟨rfl, _⟩, h6⟩ := h4 j l[j] (List.getElem?_eq_getElem hj)
      have h7 := h6 0 Nat.one_pos
      simp only [Rep.nat, Nat.mul_one, Nat.add_zero] at h7
      rw [h7]
      simp [u32s, hj]
  · rcases h with h | ⟨b, off, h1, h2, h3, h4⟩
    · subst h; cases hx
    · obtain ⟨j, hj, rfl⟩ := List.mem_iff_getElem.1 hx
      obtain ⟨cs, ⟨_, h5⟩, _⟩ := h4 j l[j] (List.getElem?_eq_getElem hj)
      exact h5
theorem open_job {H : Type} {enc : TypeId × Value → H} {W : World} {base : Nat} {v : Value} {d : DataW H} {p : List MemPlace} (hval : Value.okWide Try.prog W .any base 30 v) (h : DataW.Trod enc Try.prog W 0 (fun _ => true) true 30 v d p) :
    ∃ (j : JobD) (ao : Option Addr) (cap : Nat), v = .agg (jobCs j ao cap) ∧ JobOk j ∧ Rd W ao j.src.length (u32s j.src) := by
  obtain ⟨cs, rfl, hsz⟩ := Go.WideShapes.okWide_struct Try.underlying30 hval
  obtain ⟨fuel, hf⟩ := h
  obtain ⟨⟨a, b, c, d, l, e, f, g, i, k, m, ⟨n, o, q, r, _⟩, _⟩, _, _, e1, h1, _, _, rfl, ⟨rfl, h2⟩, _, _, rfl, ⟨rfl, h3⟩, _, _, rfl, ⟨rfl, h4⟩, _, _, rfl, ⟨ao, cap, rfl, _, _, hl⟩, _, _, rfl, ⟨rfl, h6⟩, _, _, rfl, ⟨rfl, h7⟩, _, _, rfl, ⟨rfl, h8⟩, _, _, rfl, ⟨rfl, h9⟩, _, _, rfl, ⟨rfl, h10⟩, _, _, rfl, ⟨rfl, h11⟩, _, _, rfl, ⟨_, _, rfl, ⟨rfl, h12⟩, _, _, rfl, ⟨rfl, h13⟩, _, _, rfl, ⟨rfl, h14⟩, _, _, rfl, ⟨rfl, h15⟩, rfl⟩, rfl⟩ := job_opens.2 hf
  obtain ⟨hr, hlt⟩ := hl.rdU32
  cases h1
  exact ⟨⟨a.toNat, b, c, d, l, e, f, g, i, k, m, n, o, q, r⟩, ao, cap, congrArg Value.agg (Array.toList_inj.1 e1), ⟨a.toNat_lt, h2, h3, h4, hlt, h6, h7, h8, h9, h10, h11, h12, h13, h14, h15⟩, hr⟩
end Go.Proofs.Ytmflopeedofkhaa
