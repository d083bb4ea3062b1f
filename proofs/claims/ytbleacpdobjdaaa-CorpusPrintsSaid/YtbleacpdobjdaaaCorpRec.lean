/- corpus.Rec, corpus.piece, the reference's keys. -/
import Derived.Test.YtbleacpdobjdaaaKeyPlain
import Derived.Test.YtbleacpdobjdaaaTextSame
import Derived.Handy
namespace Go.Proofs.Ytbleacpdobjdaaa
set_option linter.unusedSimpArgs false
set_option linter.unusedVariables false
open Go.RowKit

theorem be4_vals (a : Nat) (ha : a < 4294967296) : byteVals (be4 a) = [.int .u8 ((a : Int) / 16777216), .int .u8 ((a : Int) / 65536 % 256), .int .u8 ((a : Int) / 256 % 256), .int .u8 ((a : Int) % 256)] := by
  simp only [byteVals, be4, List.map_cons, List.map_nil, u8n]
  have h : ((a / 16777216 % 256 : Nat) : Int) = (a : Int) / 16777216 := by omega
  rw [h]
  rfl
theorem key3_vals (a b c : Nat) : byteVals (key3 a b c) = byteVals (be4 a) ++ byteVals (be4 b) ++ byteVals (be4 c) := by simp [byteVals, key3]

set_option maxRecDepth 100000 in
set_option maxHeartbeats 1600000 in
theorem rec_any (a b c : Nat) (ha : a < 4294967296) (hb : b < 4294967296) (hc : c < 4294967296) (w : World) :
    Calls Try.prog 25 #[.int .u32 a, .int .u32 b, .int .u32 c] w (RetOwn 5 1 12 (byteVals (key3 a b c)) w) := by
  have hmk : ∀ u : World, (Instr.makeSlice 34 (.int .i64 12) (.int .i64 12)).run Try.prog u = .ok (.slice (some ⟨u.heap.size, 0, none⟩) 12 12) (u.alloc (.cells #[.int .u8 0, .int .u8 0, .int .u8 0, .int .u8 0, .int .u8 0, .int .u8 0, .int .u8 0, .int .u8 0, .int .u8 0, .int .u8 0, .int .u8 0, .int .u8 0] 5)) := fun u => by kernel_rfl
  have i0 : ∀ u : World, (Instr.index 83 (.agg #[.int .u32 a, .int .u32 b, .int .u32 c]) (.int .i64 0)).run Try.prog u = .ok (.int .u32 a) u := fun _ => by kernel_rfl
  have i1 : ∀ u : World, (Instr.index 83 (.agg #[.int .u32 a, .int .u32 b, .int .u32 c]) (.int .i64 1)).run Try.prog u = .ok (.int .u32 b) u := fun _ => by kernel_rfl
  have i2 : ∀ u : World, (Instr.index 83 (.agg #[.int .u32 a, .int .u32 b, .int .u32 c]) (.int .i64 2)).run Try.prog u = .ok (.int .u32 c) u := fun _ => by kernel_rfl
  go_enter Try.func25, Try.ntmps25
  go_wp2
  refine wp_loop_rounds 4 ?_
  iterate 3
    rw [rounds_succ]
    go_wp2
    refine wp_loop_rounds 5 ?_
    iterate 5
      rw [rounds_succ]
      go_wp2
  rw [rounds_succ]
  go_wp2
  go_ret
  refine ⟨some ⟨w.heap.size, 0, none⟩, 12, some w.heap.size, rfl, ⟨rfl, .inr ⟨w.heap.size, _, rfl, rfl, heap_alloc_new w _, by omega, by simp [maxLen], rfl, ?_⟩⟩, fun k h => by cases h; exact Nat.le_refl _, ext_alloc w _⟩
  rw [key3_vals, be4_vals a ha, be4_vals b hb, be4_vals c hc]
  rfl
end Go.Proofs.Ytbleacpdobjdaaa
