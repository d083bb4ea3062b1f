/- The document's example of layer 20. -/
import Derived.Test.YtiojilibkdbpdaaWkMay
namespace Go.Proofs.Ytiojilibkdbpdaa
set_option linter.unusedSimpArgs false
set_option linter.unusedVariables false
set_option maxRecDepth 100000
open Go.RowKit

theorem wpList_load_rowg {P : Program} {ops : Array Oper} {rest : List Oper} {o : Oper} {a : Act} {w : World} {Q : Exit → Act → World → Prop} (hw : Region.wanted o (yielded ops a.tmps) = true) (ty : TypeId) (x : Operand) (ho : o.op = .load ty x)
    (g : Nat) (hx : a.eval x = .pointer (some ⟨g, 0, none⟩)) (t : TypeId) (cs : Array Value) (fr : Nat × Nat) (d : TypeDesc) (hg : w.heap[g]? = some (.cells cs t fr))
    (hu : P.underlying ty = some d) (hd : (match d with | .struct _ | .array _ _ => true | _ => false) = true) (hi : (P.info? ty).map (·.size) = some cs.size)
    (h : wpList P ops Q rest (a.put o.dst (.agg cs)) w) : wpList P ops Q (o :: rest) a w :=
  wpList_step fun _ hK => by rw [if_pos hw]; exact wp_load_row ty x ho g hx t cs fr d hg hu hd hi (hK _ _ h)
def awakeJ : JobD := ⟨0, 0, 10, 2, [5, 9], 0, 1, 1, 1, 100, 10, 1024, 4096, 64, 64⟩
theorem awakeJ_ok : JobOk awakeJ := by
  refine ⟨?_, ?_, ?_, ?_, ?_, ?_, ?_, ?_, ?_, ?_, ?_, ?_, ?_, ?_, ?_⟩ <;> decide
def awakeW : WkD := ⟨2, 0, 9, 0, 0, 0, 0⟩
theorem awakeW_ok : WkOk awakeW := by
  refine ⟨?_, ?_, ?_, ?_, ?_, ?_, ?_⟩ <;> decide
theorem awake_may : mayJ awakeJ = true := by decide
theorem awake_new : newV awakeJ 2 = .tuple #[.agg (wkCs awakeW), .bool true] := by
  have h : walkersJ awakeJ = 4 := by unfold walkersJ; rw [awake_may]; rfl
  unfold newV newJ srcH srcN
  rw [h]
  rfl
theorem awake_mayW : mayW awakeJ awakeW = true := by
  have h : walkersJ awakeJ = 4 := by unfold walkersJ; rw [awake_may]; rfl
  unfold mayW newJ srcH srcN
  rw [show awakeW.id = 2 from rfl, h]
  decide
def begCs : Array Value := #[.int .u8 0, .int .u64 0, .int .u32 10, .int .u32 1, .slice none 0 0, .int .u32 0, .int .u32 1, .int .u32 1, .int .u32 1, .int .u32 100, .int .u32 10, .int .u32 1024, .int .u32 4096, .int .u32 64, .int .u32 64]
theorem begin_lit (w : World) : Calls Try.prog 36 #[] w (RetB (.agg #[.int .u8 0, .int .u64 0, .int .u32 10, .int .u32 1, .slice none 0 0, .int .u32 0, .int .u32 1, .int .u32 1, .int .u32 1, .int .u32 100, .int .u32 10, .int .u32 1024, .int .u32 4096, .int .u32 64, .int .u32 64]) w) := begin_any w
set_option maxHeartbeats 3200000 in
theorem awake20_any (w : World) : Calls Try.prog 12 #[] w (RetB (.bool true) w) := by
  have HBg := Lib.hid (begin_lit w)
  go_enter Try.func12, Try.ntmps12
  go_upto_region 4 with (go_at_call 36; refine HBg.out.mono ?_; rintro e w1 ⟨rfl, hB1⟩; have HB1 := Lib.hid hB1; clear hB1)
  obtain ⟨W2, hW2⟩ : ∃ W2, W2 = (w1.alloc (.cells #[.int .u8 0, .int .u64 0, .int .u32 10, .int .u32 2, .slice (some ⟨w1.heap.size + 1, 0, none⟩) 2 2, .int .u32 0, .int .u32 1, .int .u32 1, .int .u32 1, .int .u32 100, .int .u32 10, .int .u32 1024, .int .u32 4096, .int .u32 64, .int .u32 64] 28)).alloc (.cells #[.int .u32 5, .int .u32 9] 23) := ⟨_, rfl⟩
  rw [← hW2]
  have hz2 : W2.heap.size = w1.heap.size + 2 := by rw [hW2]; simp
  have hb1 : W2.heap[w1.heap.size]? = some (.cells (jobCs awakeJ (some ⟨w1.heap.size + 1, 0, none⟩) 2) 28 (0, 0)) := by rw [hW2]; exact heap_alloc2_old _ _ _
  have hb2 : W2.heap[w1.heap.size + 1]? = some (.cells #[.int .u32 5, .int .u32 9] 23 (0, 0)) := by rw [hW2]; exact heap_alloc2_new _ _ _
  have HB2 := Lib.hid (show Below w1.heap.size w1 W2 by rw [hW2]; exact (ext_alloc _ _).alloc (by simp) _)
  have hrd : Rd W2 (some ⟨w1.heap.size + 1, 0, none⟩) awakeJ.src.length (u32s awakeJ.src) := by
    have ho : Own W2 (some ⟨w1.heap.size + 1, 0, none⟩) 2 (some (w1.heap.size + 1)) 23 1 2 (u32s awakeJ.src) := ⟨rfl, .inr ⟨w1.heap.size + 1, _, rfl, rfl, hb2, Nat.le_refl _, by decide, rfl, rfl⟩⟩
    exact ho.rd
  have HN := Lib.hid (fun W (h : Below W2.heap.size W2 W) => (show Calls Try.prog 13 #[.agg (jobCs awakeJ (some ⟨w1.heap.size + 1, 0, none⟩) 2), .int .u32 2] W (RetB (.tuple #[.agg #[.int .u32 2, .int .u32 0, .int .u32 9, .int .u32 0, .int .u32 0, .int .u32 0, .int .u32 0], .bool true]) W) from awake_new ▸ jnew_any awakeJ awakeJ_ok (some ⟨w1.heap.size + 1, 0, none⟩) 2 2 (by decide) W (by decide) (hrd.ext h)))
  have HMy := Lib.hid (fun W (h : Below W2.heap.size W2 W) => (show Calls Try.prog 17 #[.agg (jobCs awakeJ (some ⟨w1.heap.size + 1, 0, none⟩) 2), .agg #[.int .u32 2, .int .u32 0, .int .u32 9, .int .u32 0, .int .u32 0, .int .u32 0, .int .u32 0]] W (RetB (.bool true) W) from awake_mayW ▸ mayw_any awakeJ awakeJ_ok (some ⟨w1.heap.size + 1, 0, none⟩) 2 awakeW awakeW_ok W (by decide) (hrd.ext h)))
  have HWh := Lib.hid (fun W => (show Calls Try.prog 19 #[.agg #[.int .u32 2, .int .u32 0, .int .u32 9, .int .u32 0, .int .u32 0, .int .u32 0, .int .u32 0]] W (RetB (.int .u32 9) W) from where_any awakeW W))
  have heq : ∀ W, (Op.equalIn 10000 31 (.agg #[.int .u32 2, .int .u32 0, .int .u32 9, .int .u32 0, .int .u32 0, .int .u32 0, .int .u32 0]) (.agg #[.int .u32 2, .int .u32 0, .int .u32 9, .int .u32 0, .int .u32 0, .int .u32 0, .int .u32 0])).run Try.prog W = .ok true W := fun W => eq_walker awakeW awakeW W
  have Hb1 := Lib.hid hb1
  clear hb1 hb2 hrd hW2
  go_wp2_with (first
    | (refine wpList_load_row rfl _ _ rfl w1.heap.size rfl 28 (jobCs awakeJ (some ⟨w1.heap.size + 1, 0, none⟩) 2) (0, 0) _ Hb1.out Try.underlying28 rfl (show _ = some 15 by kernel_rfl) ?_)
    | (refine wpList_load_rowg rfl _ _ rfl w1.heap.size rfl 28 (jobCs awakeJ (some ⟨w1.heap.size + 1, 0, none⟩) 2) (0, 0) _ (Hj3.out _ (ext_alloc w3 _)) Try.underlying28 rfl (show _ = some 15 by kernel_rfl) ?_)
    | (refine wpList_load_rowg rfl _ _ rfl w3.heap.size rfl 31 #[.int .u32 2, .int .u32 0, .int .u32 9, .int .u32 0, .int .u32 0, .int .u32 0, .int .u32 0] (0, 0) _ Hw4.out Try.underlying31 rfl (show _ = some 7 by kernel_rfl) ?_)
    | (go_at_call 13; refine (HN.out _ (Below.refl _ _)).mono ?_; rintro e w3 ⟨rfl, hB3⟩; have Hj3 := Lib.hid (fun W (h : Below w3.heap.size w3 W) => (h.block w1.heap.size (by have := hB3.size; omega)).trans ((hB3.block w1.heap.size (by omega)).trans Hb1.out)); have HB3 := Lib.hid hB3; clear hB3)
    | (go_at_call 17; refine (HMy.out _ (HB3.out.alloc HB3.out.size _)).mono ?_; rintro e w4 ⟨rfl, hB4⟩; have Hw4 := Lib.hid ((hB4.block w3.heap.size (by simp)).trans (heap_alloc_new w3 _)); have HB4 := Lib.hid hB4; clear hB4)
    | (go_at_call 19; refine (HWh.out _).mono ?_; rintro e w5 ⟨rfl, hB5⟩; have HB5 := Lib.hid hB5; clear hB5))
  go_ret
  refine ⟨rfl, ?_⟩
  have b3 := HB1.out.trans (HB2.out.mono HB1.out.size)
  have z3 := b3.size
  have b4 := b3.trans (HB3.out.mono z3)
  have z4 := b4.size
  have b5 := (b4.alloc z4 _).trans (HB4.out.mono (by simp; omega))
  exact b5.trans (HB5.out.mono b5.size)
end Go.Proofs.Ytiojilibkdbpdaa
