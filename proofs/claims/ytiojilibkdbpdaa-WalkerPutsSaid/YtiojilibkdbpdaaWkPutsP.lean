/- WalkerPuts: any walkers' bytes, behind others, are the document's, and are read as they were. No condition. -/
import Derived.Test.YtiojilibkdbpdaaRows
import Derived.Test.YtiojilibkdbpdaaLaw
import Derived.Test.YtiojilibkdbpdaaWkPutsW
import Derived.Test.YtiojilibkdbpdaaJobOpen
namespace Go.Proofs.Ytiojilibkdbpdaa
set_option linter.unusedSimpArgs false
set_option linter.unusedVariables false
set_option maxRecDepth 100000
open Go.ChangeShapes Go.WideShapes Go.ChangeAt Go.RowKit

theorem RdS.asWk {fp : Nat → Prop} {w : World} {ao : Option Addr} {m : List (Nat × Nat × Nat × Nat × Nat × Nat × Nat × Unit)} (h : RdS wkRep fp w ao m) :
    ∃ l : List WkD, l.length = m.length ∧ RdS Rep.wk fp w ao l ∧ ∀ x ∈ l, WkOk x := by
  have key : ∀ {cs : List Value} {t : Nat × Nat × Nat × Nat × Nat × Nat × Nat × Unit}, wkRep.ok w fp t cs → cs = (wkCs ⟨t.1, t.2.1, t.2.2.1, t.2.2.2.1, t.2.2.2.2.1, t.2.2.2.2.2.1, t.2.2.2.2.2.2.1⟩).toList ∧ WkOk ⟨t.1, t.2.1, t.2.2.1, t.2.2.2.1, t.2.2.2.2.1, t.2.2.2.2.2.1, t.2.2.2.2.2.2.1⟩ := by
    rintro cs ⟨a, b, c, d, e, f, g, _⟩ ⟨_, _, rfl, ⟨rfl, h1⟩, _, _, rfl, ⟨rfl, h2⟩, _, _, rfl, ⟨rfl, h3⟩, _, _, rfl, ⟨rfl, h4⟩, _, _, rfl, ⟨rfl, h5⟩, _, _, rfl, ⟨rfl, h6⟩, _, _, rfl, ⟨rfl, h7⟩, rfl⟩
    exact ⟨rfl, h1, h2, h3, h4, h5, h6, h7⟩
  rcases h with rfl | ⟨b, off, h1, h2, h3, h4⟩
  · exact ⟨[], rfl, .inl rfl, fun x hx => by cases hx⟩
  · refine ⟨m.map (fun t => ⟨t.1, t.2.1, t.2.2.1, t.2.2.2.1, t.2.2.2.2.1, t.2.2.2.2.2.1, t.2.2.2.2.2.2.1⟩), by simp, .inr ⟨b, off, h1, h2, h3, fun j x hx => ?_⟩, fun x hx => ?_⟩
    · rw [List.getElem?_map] at hx
      obtain ⟨t, ht, rfl⟩ := Option.map_eq_some_iff.1 hx
      obtain ⟨cs, h5, h6⟩ := h4 j t ht
      exact ⟨cs, key h5, h6⟩
    · obtain ⟨t, ht, rfl⟩ := List.mem_map.1 hx
      obtain ⟨j, hj, rfl⟩ := List.mem_iff_getElem.1 ht
      obtain ⟨cs, h5, _⟩ := h4 j _ (List.getElem?_eq_getElem hj)
      exact (key h5).2

set_option maxRecDepth 100000 in
theorem walkerPuts_open {H : Type} {enc : TypeId × Value → H} (W : World) (base : Nat) (args : Array Value) (ds : List (DataW H)) (ps : List MemPlace)
    (hval : ∀ (j : Nat) t v, Try.f5.params[j]? = some t → args[j]? = some v → Value.okWide Try.prog W .any base t v)
    (hA : DataW.TrodAll enc Try.prog W 0 (fun _ => true) true Try.f5.params.toList args.toList ds ps)
    (hlt : ∀ x ∈ ps, x.block < W.heap.size) (hfz : W.noneFrozen ps)
    (hsz : (DataW.weightsEach Try.prog Try.f5.params.toList ds).all (· ≤ reachBytes) = true) :
    Calls Try.prog 5 args W fun e W' => e = .returned (.bool true) ∧ Below W.heap.size W W' := by
  rw [Try.params5] at hA hval hsz
  obtain ⟨v0, v1, d0, d1, p0, p1, hargs, rfl, rfl, h0, h1⟩ := trodAll_two hA
  obtain rfl : args = #[v0, v1] := by cases args; simp_all
  obtain ⟨ao, ca, B, rfl, _, _, h3⟩ := open_slice_arg (R := Rep.u8) (opens_slice Try.underlying39 (by kernel_rfl) Nat.one_pos (opens_u8 Try.underlying5 (by kernel_rfl))) Try.underlying39 (hval 0 39 v0 rfl rfl) h0
  obtain ⟨bo, cb, m, rfl, _, _, h4⟩ := open_slice_arg (R := wkRep) (opens_slice Try.underlying40 (by kernel_rfl) (by decide) wk_opens) Try.underlying40 (hval 1 40 v1 rfl rfl) h1
  obtain ⟨l, hl, hr, hok⟩ := h4.asWk
  rw [← hl]
  exact puts20_walk B l hok ao bo ca cb W h3.rdU8 hr

theorem walkerPuts_isLaw : IsLaw Rows.walkerPutsSpec 2 := ⟨rfl, fun H ds h => by match ds, h with | [d1, d2], _ => exact ⟨rfl, rfl, rfl⟩⟩

set_option maxRecDepth 100000 in
theorem walkerPuts_lifted (os : Os) (started : os.Started) (H : Type) (enc : TypeId × Value → H) :
    ReturnsInHanded {} Try.checked os 5 .any (Rows.walkerPutsSpec.pre6 enc Try.prog Try.f5 Rows.walkerPutsRow.domain false) (Rows.walkerPutsSpec.post enc Try.prog Try.f5 false true false false) :=
  law_lifted (C := Try.checked) (by kernel_rfl) started (by kernel_rfl) Try.func5 walkerPuts_isLaw (by kernel_rfl) (by kernel_rfl) rfl Try.underlying4
    (ChangeSpec.witness6 (enc := enc) (C := Try.checked) false ⟨#[], #[.slice none 0 0, .slice none 0 0], []⟩ 8 (by kernel_rfl) (by kernel_rfl) (by kernel_rfl) (by kernel_rfl))
    (fun W base args ds ps hval hA hlt hfz hsz => walkerPuts_open W base args ds ps hval hA hlt hfz hsz)

theorem walkerPuts_holds : Rows.WalkerPutsSaid :=
  OpenClaim.holds_of_wide 5 Try.f5 rfl rfl rfl rfl rfl rfl rfl ⟨rfl, rfl, rfl, rfl, rfl⟩ rfl rfl rfl rfl rfl (by kernel_rfl) Try.func5 (by kernel_rfl)
    (of_decide_eq_true (by kernel_rfl)) (by unfold Func.isWrapper; first | (rw [if_pos (by decide +kernel)]; kernel_rfl) | (rw [if_neg (by decide +kernel)]; exact ⟨rfl, rfl⟩))
    (fun os started H enc _ => walkerPuts_lifted os started H enc)
#print axioms walkerPuts_holds
end Go.Proofs.Ytiojilibkdbpdaa
