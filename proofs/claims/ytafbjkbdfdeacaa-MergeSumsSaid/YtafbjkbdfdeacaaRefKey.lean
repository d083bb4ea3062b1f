/- The reference's keys: four, Key, number, Of. -/
import Derived.Test.YtafbjkbdfdeacaaCorpRec
namespace Go.Proofs.Ytafbjkbdfdeacaa
set_option linter.unusedSimpArgs false
set_option linter.unusedVariables false
open Go.RowKit

set_option maxRecDepth 100000 in
set_option maxHeartbeats 1600000 in
theorem four_any (a : Nat) (ha : a < 4294967296) (w : World) :
    Calls Try.prog 40 #[.int .u32 a] w (RetOwn 5 1 4 (byteVals (be4 a)) w) := by
  have hv := be4_vals a ha
  have Hv := Lib.hid hv
  clear hv
  go_enter Try.func40, Try.ntmps40
  go_wp2
  go_ret
  refine ⟨some ⟨w.heap.size, 0, none⟩, 4, some w.heap.size, rfl, ⟨rfl, .inr ⟨w.heap.size, _, rfl, rfl, heap_alloc_new w _, by omega, by simp [maxLen], rfl, ?_⟩⟩, fun k h => by cases h; exact Nat.le_refl _, ext_alloc w _⟩
  rw [Hv.out]
  rfl

set_option maxRecDepth 100000 in
set_option maxHeartbeats 1600000 in
theorem number_any (a b c d : UInt8) (bb off len cap : Nat) (w : World) (h4 : 4 ≤ len) (h0 : w.cell? ⟨bb, off, none⟩ = some (.int .u8 a.toNat)) (h1 : w.cell? ⟨bb, off + 1, none⟩ = some (.int .u8 b.toNat)) (h2 : w.cell? ⟨bb, off + 2, none⟩ = some (.int .u8 c.toNat)) (h3 : w.cell? ⟨bb, off + 3, none⟩ = some (.int .u8 d.toNat)) :
    Calls Try.prog 39 #[.slice (some ⟨bb, off, none⟩) len cap] w fun e w' => e = .returned (.int .u32 (num4 [a, b, c, d])) ∧ ∃ n, w' = w.drewN n := by
  have k0 := a.toNat_lt; have k1 := b.toNat_lt; have k2 := c.toNat_lt; have k3 := d.toNat_lt
  simp only [num4, List.foldl_cons, List.foldl_nil, Nat.zero_mul, Nat.zero_add]
  generalize a.toNat = a at *
  generalize b.toNat = b at *
  generalize c.toNat = c at *
  generalize d.toNat = d at *
  have l0 : (0 : Int) < len := by omega
  have l1 : (1 : Int) < len := by omega
  have l2 : (2 : Int) < len := by omega
  have l3 : (3 : Int) < len := by omega
  go_enter Try.func39, Try.ntmps39
  go_wp2
  go_quiet (fail)
  go_wp2
  go_ret
  refine ⟨?_, _, rfl⟩
  show Ending.returned (.int .u32 (16777216 * (a : Int) + 65536 * (b : Int) + 256 * (c : Int) + (d : Int))) = _
  congr 2
  omega

set_option maxRecDepth 100000 in
set_option maxHeartbeats 1600000 in
theorem rkey_any (a b c : Nat) (ha : a < 4294967296) (hb : b < 4294967296) (hc : c < 4294967296) (w : World) :
    Calls Try.prog 18 #[.agg #[.int .u32 a, .int .u32 b, .int .u32 c]] w (RetOwn 5 1 12 (byteVals (key3 a b c)) w) := by
  have hE := bytesElem
  have hk := Try.underlying25
  have Hk := Lib.hid hk
  clear hk
  go_enter Try.func18, Try.ntmps18
  go_wp2_with fail
  obtain ⟨wA, hwA⟩ : ∃ x, (w.alloc (Obj.cells #[Value.int IntKind.u32 a, Value.int IntKind.u32 b, Value.int IntKind.u32 c] 24)).alloc (Obj.cells #[] 5) = x := ⟨_, rfl⟩
  have ho0 : Own wA (some ⟨w.heap.size + 1, 0, none⟩) 0 (some (w.heap.size + 1)) 5 1 0 [] := by rw [← hwA]; exact Own.emptyAt _ 5 1 (w.heap.size + 1) (by simp)
  have a1 : wA.cell? ⟨w.heap.size, 1, none⟩ = some (.int .u32 b) := by rw [← hwA]; simp [go_sem, ↓IntWalk.iteOmega]
  have a2 : wA.cell? ⟨w.heap.size, 2, none⟩ = some (.int .u32 c) := by rw [← hwA]; simp [go_sem, ↓IntWalk.iteOmega]
  have hBA : Below w.heap.size w wA := by rw [← hwA]; exact (ext_alloc w _).alloc (by simp) _
  have hsA : w.heap.size + 2 ≤ wA.heap.size := by rw [← hwA]; simp
  rw [hwA]
  have Ho0 := Lib.hid ho0
  have A1 := Lib.hid a1
  have A2 := Lib.hid a2
  clear ho0 a1 a2 hwA
  go_wp2_with (first
    | (go_at_call 40; refine (four_any _ (by assumption) _).mono ?_; rintro e w1 ⟨af, cf, gf, rfl, hof, hgf, hB1⟩)
    | (at_builtin; refine wpList_app rfl (.tmp 4) (.tmp 7) 25 25 rfl hE (Ho0.out.ext hB1) rfl rfl (hof.rd.src Hk.out _ (byteVals_one _)) (by simp [maxLen]) (by omega) ?_; intro ao1 cap1 g1 w2 ho1 hg1 hon1; have hs1 := hB1.size; have hA1 : Below (w.heap.size + 1) wA w2 := (hB1.mono (by omega)).trans (hon1.below (by omega) (fun k hk e => by cases e; omega)); have hG1 : ∀ k, g1 = some k → w.heap.size + 1 ≤ k := (fun k h => by rcases hg1 with rfl | rfl <;> cases h <;> omega); have a1 := ((bcell hA1).1 w.heap.size 1 (by omega)).trans A1.out; have HG1 := Lib.hid hG1; clear hof hgf hB1 hg1 hon1 hG1)
    | (at_builtin; refine wpList_app rfl (.tmp 9) (.tmp 12) 25 25 rfl hE (ho1.ext hB1) rfl rfl (hof.rd.src Hk.out _ (byteVals_one _)) (by simp [maxLen]) (by omega) ?_; intro ao2 cap2 g2 w3 ho2 hg2 hon2; have hs1 := hB1.size; have hs2 := hA1.size; have hA2 : Below (w.heap.size + 1) wA w3 := (hA1.trans (hB1.mono (by omega))).trans (hon2.below (by omega) (fun k hk e => by have := HG1.out k e; omega)); have hG2 : ∀ k, g2 = some k → w.heap.size + 1 ≤ k := (fun k h => by rcases hg2 with rfl | rfl <;> first | exact HG1.out k h | (cases h; omega)); have a2 := ((bcell hA2).1 w.heap.size 2 (by omega)).trans A2.out; have HG2 := Lib.hid hG2; clear hof hgf hB1 hg2 hon2 hG2)
    | (at_builtin; refine wpList_app rfl (.tmp 14) (.tmp 17) 25 25 rfl hE (ho2.ext hB1) rfl rfl (hof.rd.src Hk.out _ (byteVals_one _)) (by simp [maxLen]) (by omega) ?_; intro ao3 cap3 g3 w4 ho3 hg3 hon3; have hs1 := hB1.size; have hs3 := hA2.size; have hA3 : Below (w.heap.size + 1) wA w4 := (hA2.trans (hB1.mono (by omega))).trans (hon3.below (by omega) (fun k hk e => by have := HG2.out k e; omega)); have hG3 : ∀ k, g3 = some k → w.heap.size + 1 ≤ k := (fun k h => by rcases hg3 with rfl | rfl <;> first | exact HG2.out k h | (cases h; omega)); have HG3 := Lib.hid hG3; clear hof hgf hB1 hg3 hon3 hG3))
  go_ret
  refine ⟨ao3, cap3, g3, rfl, ?_, fun k h => by have := HG3.out k h; omega, hBA.trans (hA3.mono (by omega))⟩
  rw [key3_vals]
  simpa using ho3
end Go.Proofs.Ytafbjkbdfdeacaa
