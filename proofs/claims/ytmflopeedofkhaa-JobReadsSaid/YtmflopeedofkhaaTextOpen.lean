/- A slice of bytes among the arguments. -/
import Derived.Test.YtmflopeedofkhaaLaw
import Derived.Test.YtmflopeedofkhaaByText
namespace Go.Proofs.Ytmflopeedofkhaa
set_option linter.unusedSimpArgs false
set_option linter.unusedVariables false
set_option maxRecDepth 100000
open Go.ChangeShapes Go.WideShapes Go.ChangeAt Go.RowKit Go.ChangeMaps

set_option maxRecDepth 100000 in
/-- a slice of bytes that came in -/
theorem open_bytes2 {H : Type} {enc : TypeId × Value → H} {W : World} {base : Nat} {v : Value} {d : DataW H} {p : List MemPlace} (hval : Value.okWide Try.prog W .any base 22 v) (h : DataW.Trod enc Try.prog W 0 (fun _ => true) true 22 v d p) :
    ∃ (ao : Option Addr) (cap : Nat) (l : List UInt8), v = .slice ao l.length cap ∧ Rd W ao l.length (byteVals l) ∧ l.length ≤ cap ∧ cap ≤ maxLen := by
  have hc5 : Try.prog.cellsOf 5 = 1 := by kernel_rfl
  obtain ⟨a1, len, cap, rfl⟩ := okWide_slice Try.underlying22 hval
  obtain ⟨fuel, hf⟩ := h
  rcases open_ints Try.underlying22 Try.underlying5 hc5 hf with ⟨hcs, hx⟩ | ⟨a, len', cap', zs, hcs, _, hl, hm, hz, hx, hcell, hwz⟩
  · simp [Value.cells] at hcs
    obtain ⟨rfl, rfl, rfl⟩ := hcs
    exact ⟨none, 0, [], rfl, ⟨rfl, .inl rfl⟩, by simp, by simp [maxLen]⟩
  · simp [Value.cells] at hcs
    obtain ⟨rfl, rfl, rfl⟩ := hcs
    simp only [if_true] at hz
    have hlen : ((zs.take len).map fun n => UInt8.ofNat n.toNat).length = len := by simp; omega
    refine ⟨some a, cap, (zs.take len).map fun n => UInt8.ofNat n.toNat, by rw [hlen], ⟨by simp [byteVals], ?_⟩, by rw [hlen]; exact hl, hm⟩
    rw [hlen]
    rcases Nat.eq_zero_or_pos len with h0 | hpos
    · exact .inl h0
    · obtain ⟨ab, ao, spot⟩ := a
      have hspot : spot = none := by simpa [Addr.add] using World.cell?_spot (hcell 0 (by omega))
      subst hspot
      have hblk := World.block_lt_of_cell? W _ (hcell 0 (by omega))
      refine .inr ⟨ab, ao, rfl, hblk, fun j hj => ?_⟩
      have hcj := hcell j (by omega)
      rw [Addr.add_lit] at hcj
      rw [hcj]
      have hb := range_u8 hwz j
      have e : zs.getD j 0 = zs[j]'(by omega) := by simp [List.getD, List.getElem?_eq_getElem (show j < zs.length by omega)]
      rw [List.getD_eq_getElem?_getD] at e
      rw [e] at hb
      rw [List.getD_eq_getElem?_getD, e]
      simp only [byteVals, List.getElem?_map, List.getElem?_take, if_pos hj, List.getElem?_eq_getElem (show j < zs.length by omega), Option.map_some]
      congr 2
      simp only [UInt8.toNat_ofNat']
      omega
end Go.Proofs.Ytmflopeedofkhaa
