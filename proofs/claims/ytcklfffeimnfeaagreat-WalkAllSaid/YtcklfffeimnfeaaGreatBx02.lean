/- Texts merged into one: JobNums. -/
import Derived.Test.YtcklfffeimnfeaaGreatBx01
import Derived.Test.YtcklfffeimnfeaaGreatProg
set_option maxRecDepth 100000
set_option maxHeartbeats 12800000
set_option linter.unusedSimpArgs false
set_option linter.unusedVariables false
namespace Go.Proofs.YtcklfffeimnfeaaGreat
open Go.RowKit

def NumsR (T : TypeId) (jb jo : Nat) (w : World) (e : Ending) (w' : World) : Prop := ∃ mb es, e = .returned (.map (some mb)) ∧ w.heap.size ≤ mb ∧ NumsAt T jb jo w' mb es ∧ Below w.heap.size w w'
def numA (jb jo : Nat) (m : Value) (s : Nat → Value) (u v : Value) : Act := { tmps := #[.pointer (some ⟨jb, jo, none⟩), undef, v, m, .pointer (some ⟨jb, jo, none⟩), .pointer (some ⟨jb, jo, none⟩), .pointer (some ⟨jb, jo + 2, none⟩), .agg #[.pointer (some ⟨jb, jo + 2, none⟩), .int .u64 0, .int .u64 65536], (s 0), .pointer (some ⟨jb, jo, none⟩), .pointer (some ⟨jb, jo, none⟩), .pointer (some ⟨jb, jo + 3, none⟩), .agg #[.pointer (some ⟨jb, jo + 3, none⟩), .int .u64 1, .int .u64 65536], (s 1), .pointer (some ⟨jb, jo, none⟩), .pointer (some ⟨jb, jo, none⟩), .pointer (some ⟨jb, jo + 5, none⟩), .agg #[.pointer (some ⟨jb, jo + 5, none⟩), .int .u64 0, .int .u64 4294967295], .pointer (some ⟨jb, jo, none⟩), .pointer (some ⟨jb, jo, none⟩), .pointer (some ⟨jb, jo + 6, none⟩), .agg #[.pointer (some ⟨jb, jo + 6, none⟩), .int .u64 1, .int .u64 4294967295], (s 2), .pointer (some ⟨jb, jo, none⟩), .pointer (some ⟨jb, jo, none⟩), .pointer (some ⟨jb, jo + 7, none⟩), .agg #[.pointer (some ⟨jb, jo + 7, none⟩), .int .u64 1, .int .u64 65536], .pointer (some ⟨jb, jo, none⟩), .pointer (some ⟨jb, jo, none⟩), .pointer (some ⟨jb, jo + 8, none⟩), .agg #[.pointer (some ⟨jb, jo + 8, none⟩), .int .u64 1, .int .u64 65536], (s 3), .pointer (some ⟨jb, jo, none⟩), .pointer (some ⟨jb, jo, none⟩), .pointer (some ⟨jb, jo + 9, none⟩), .agg #[.pointer (some ⟨jb, jo + 9, none⟩), .int .u64 1, .int .u64 1024], (s 4), .pointer (some ⟨jb, jo, none⟩), .pointer (some ⟨jb, jo, none⟩), .pointer (some ⟨jb, jo + 10, none⟩), .agg #[.pointer (some ⟨jb, jo + 10, none⟩), .int .u64 0, .int .u64 1024], (s 5), .pointer (some ⟨jb, jo, none⟩), .pointer (some ⟨jb, jo, none⟩), .pointer (some ⟨jb, jo + 11, none⟩), .pointer (some ⟨jb, jo + 11, none⟩), .agg #[.pointer (some ⟨jb, jo + 11, none⟩), .int .u64 1, .int .u64 65536], (s 6), .pointer (some ⟨jb, jo, none⟩), .pointer (some ⟨jb, jo, none⟩), .pointer (some ⟨jb, jo + 11, none⟩), .pointer (some ⟨jb, jo + 11 + 1, none⟩), .agg #[.pointer (some ⟨jb, jo + 11 + 1, none⟩), .int .u64 1, .int .u64 16777216], (s 7), .pointer (some ⟨jb, jo, none⟩), .pointer (some ⟨jb, jo, none⟩), .pointer (some ⟨jb, jo + 11, none⟩), .pointer (some ⟨jb, jo + 11 + 2, none⟩), .agg #[.pointer (some ⟨jb, jo + 11 + 2, none⟩), .int .u64 2, .int .u64 65536], (s 8), .pointer (some ⟨jb, jo, none⟩), .pointer (some ⟨jb, jo, none⟩), .pointer (some ⟨jb, jo + 11, none⟩), .pointer (some ⟨jb, jo + 11 + 3, none⟩), .agg #[.pointer (some ⟨jb, jo + 11 + 3, none⟩), .int .u64 1, .int .u64 4096], (s 9), u], defers := [] }
@[reducible] def srcs0 : Array (Nat × Operand) := #[(0, .tmp 7)]
@[reducible] def srcs1 : Array (Nat × Operand) := #[(0, .tmp 12)]
@[reducible] def srcs2 : Array (Nat × Operand) := #[(0, .tmp 17), (1, .tmp 21)]
@[reducible] def srcs3 : Array (Nat × Operand) := #[(0, .tmp 26), (1, .tmp 30)]
@[reducible] def srcs4 : Array (Nat × Operand) := #[(0, .tmp 35)]
@[reducible] def srcs5 : Array (Nat × Operand) := #[(0, .tmp 40)]
@[reducible] def srcs6 : Array (Nat × Operand) := #[(0, .tmp 46)]
@[reducible] def srcs7 : Array (Nat × Operand) := #[(0, .tmp 52)]
@[reducible] def srcs8 : Array (Nat × Operand) := #[(0, .tmp 58)]
@[reducible] def srcs9 : Array (Nat × Operand) := #[(0, .tmp 64)]
def s0 : Nat → Value := fun _ => undef
theorem numbers_any (jb jo : Nat) (w : World) : Calls Tryz.prog 125 #[.pointer (some ⟨jb, jo, none⟩)] w (NumsR 195 jb jo w) := by
  go_enter Tryz.func125, Tryz.ntmps125
  go_wp2_with fail
  refine wp_region_any (by kernel_rfl) ?_
  change wpAny _ _ _ _ _ _ _ (World.drew _)
  refine wpAny_take (i := 1) (v := ?_) rfl (by kernel_rfl) (by kernel_rfl) (by kernel_rfl) (fun _ _ _ h => h) (Or.inl ⟨by rfl, ?_⟩) ?_
  rotate_left
  · (intro w; go_simp; try (with_reducible rfl))
  refine wpAny_take (i := 2) (v := ?_) rfl (by kernel_rfl) (by kernel_rfl) (by kernel_rfl) (fun _ _ _ h => h) (Or.inl ⟨by rfl, ?_⟩) ?_
  rotate_left
  · (intro w; go_simp; try (with_reducible rfl))
  refine wpAny_take (i := 3) (v := ?_) rfl (by kernel_rfl) (by kernel_rfl) (by kernel_rfl) (fun _ _ _ h => h) (Or.inl ⟨by rfl, ?_⟩) ?_
  rotate_left
  · (intro w; go_simp; try (with_reducible rfl))
  refine wpAny_take (i := 4) (v := ?_) rfl (by kernel_rfl) (by kernel_rfl) (by kernel_rfl) (fun _ _ _ h => h) (Or.inl ⟨by rfl, ?_⟩) ?_
  rotate_left
  · (intro w; go_simp; try (with_reducible rfl))
  refine wpAny_take (i := 7) (v := ?_) rfl (by kernel_rfl) (by kernel_rfl) (by kernel_rfl) (fun _ _ _ h => h) (Or.inl ⟨by rfl, ?_⟩) ?_
  rotate_left
  · (intro w; go_simp; try (with_reducible rfl))
  refine wpAny_take (i := 8) (v := ?_) rfl (by kernel_rfl) (by kernel_rfl) (by kernel_rfl) (fun _ _ _ h => h) (Or.inl ⟨by rfl, ?_⟩) ?_
  rotate_left
  · (intro w; go_simp; try (with_reducible rfl))
  refine wpAny_take (i := 9) (v := ?_) rfl (by kernel_rfl) (by kernel_rfl) (by kernel_rfl) (fun _ _ _ h => h) (Or.inl ⟨by rfl, ?_⟩) ?_
  rotate_left
  · (intro w; go_simp; try (with_reducible rfl))
  refine wpAny_take (i := 10) (v := ?_) rfl (by kernel_rfl) (by kernel_rfl) (by kernel_rfl) (fun _ _ _ h => h) (Or.inl ⟨by rfl, ?_⟩) ?_
  rotate_left
  · (intro w; go_simp; try (with_reducible rfl))
  refine wpAny_take (i := 13) (v := ?_) rfl (by kernel_rfl) (by kernel_rfl) (by kernel_rfl) (fun _ _ _ h => h) (Or.inl ⟨by rfl, ?_⟩) ?_
  rotate_left
  · (intro w; go_simp; try (with_reducible rfl))
  refine wpAny_take (i := 14) (v := ?_) rfl (by kernel_rfl) (by kernel_rfl) (by kernel_rfl) (fun _ _ _ h => h) (Or.inl ⟨by rfl, ?_⟩) ?_
  rotate_left
  · (intro w; go_simp; try (with_reducible rfl))
  refine wpAny_take (i := 15) (v := ?_) rfl (by kernel_rfl) (by kernel_rfl) (by kernel_rfl) (fun _ _ _ h => h) (Or.inl ⟨by rfl, ?_⟩) ?_
  rotate_left
  · (intro w; go_simp; try (with_reducible rfl))
  refine wpAny_take (i := 16) (v := ?_) rfl (by kernel_rfl) (by kernel_rfl) (by kernel_rfl) (fun _ _ _ h => h) (Or.inl ⟨by rfl, ?_⟩) ?_
  rotate_left
  · (intro w; go_simp; try (with_reducible rfl))
  refine wpAny_take (i := 17) (v := ?_) rfl (by kernel_rfl) (by kernel_rfl) (by kernel_rfl) (fun _ _ _ h => h) (Or.inl ⟨by rfl, ?_⟩) ?_
  rotate_left
  · (intro w; go_simp; try (with_reducible rfl))
  refine wpAny_take (i := 18) (v := ?_) rfl (by kernel_rfl) (by kernel_rfl) (by kernel_rfl) (fun _ _ _ h => h) (Or.inl ⟨by rfl, ?_⟩) ?_
  rotate_left
  · (intro w; go_simp; try (with_reducible rfl))
  refine wpAny_take (i := 19) (v := ?_) rfl (by kernel_rfl) (by kernel_rfl) (by kernel_rfl) (fun _ _ _ h => h) (Or.inl ⟨by rfl, ?_⟩) ?_
  rotate_left
  · (intro w; go_simp; try (with_reducible rfl))
  refine wpAny_take (i := 20) (v := ?_) rfl (by kernel_rfl) (by kernel_rfl) (by kernel_rfl) (fun _ _ _ h => h) (Or.inl ⟨by rfl, ?_⟩) ?_
  rotate_left
  · (intro w; go_simp; try (with_reducible rfl))
  refine wpAny_take (i := 23) (v := ?_) rfl (by kernel_rfl) (by kernel_rfl) (by kernel_rfl) (fun _ _ _ h => h) (Or.inl ⟨by rfl, ?_⟩) ?_
  rotate_left
  · (intro w; go_simp; try (with_reducible rfl))
  refine wpAny_take (i := 24) (v := ?_) rfl (by kernel_rfl) (by kernel_rfl) (by kernel_rfl) (fun _ _ _ h => h) (Or.inl ⟨by rfl, ?_⟩) ?_
  rotate_left
  · (intro w; go_simp; try (with_reducible rfl))
  refine wpAny_take (i := 25) (v := ?_) rfl (by kernel_rfl) (by kernel_rfl) (by kernel_rfl) (fun _ _ _ h => h) (Or.inl ⟨by rfl, ?_⟩) ?_
  rotate_left
  · (intro w; go_simp; try (with_reducible rfl))
  refine wpAny_take (i := 26) (v := ?_) rfl (by kernel_rfl) (by kernel_rfl) (by kernel_rfl) (fun _ _ _ h => h) (Or.inl ⟨by rfl, ?_⟩) ?_
  rotate_left
  · (intro w; go_simp; try (with_reducible rfl))
  refine wpAny_take (i := 27) (v := ?_) rfl (by kernel_rfl) (by kernel_rfl) (by kernel_rfl) (fun _ _ _ h => h) (Or.inl ⟨by rfl, ?_⟩) ?_
  rotate_left
  · (intro w; go_simp; try (with_reducible rfl))
  refine wpAny_take (i := 28) (v := ?_) rfl (by kernel_rfl) (by kernel_rfl) (by kernel_rfl) (fun _ _ _ h => h) (Or.inl ⟨by rfl, ?_⟩) ?_
  rotate_left
  · (intro w; go_simp; try (with_reducible rfl))
  refine wpAny_take (i := 29) (v := ?_) rfl (by kernel_rfl) (by kernel_rfl) (by kernel_rfl) (fun _ _ _ h => h) (Or.inl ⟨by rfl, ?_⟩) ?_
  rotate_left
  · (intro w; go_simp; try (with_reducible rfl))
  refine wpAny_take (i := 30) (v := ?_) rfl (by kernel_rfl) (by kernel_rfl) (by kernel_rfl) (fun _ _ _ h => h) (Or.inl ⟨by rfl, ?_⟩) ?_
  rotate_left
  · (intro w; go_simp; try (with_reducible rfl))
  refine wpAny_take (i := 33) (v := ?_) rfl (by kernel_rfl) (by kernel_rfl) (by kernel_rfl) (fun _ _ _ h => h) (Or.inl ⟨by rfl, ?_⟩) ?_
  rotate_left
  · (intro w; go_simp; try (with_reducible rfl))
  refine wpAny_take (i := 34) (v := ?_) rfl (by kernel_rfl) (by kernel_rfl) (by kernel_rfl) (fun _ _ _ h => h) (Or.inl ⟨by rfl, ?_⟩) ?_
  rotate_left
  · (intro w; go_simp; try (with_reducible rfl))
  refine wpAny_take (i := 35) (v := ?_) rfl (by kernel_rfl) (by kernel_rfl) (by kernel_rfl) (fun _ _ _ h => h) (Or.inl ⟨by rfl, ?_⟩) ?_
  rotate_left
  · (intro w; go_simp; try (with_reducible rfl))
  refine wpAny_take (i := 36) (v := ?_) rfl (by kernel_rfl) (by kernel_rfl) (by kernel_rfl) (fun _ _ _ h => h) (Or.inl ⟨by rfl, ?_⟩) ?_
  rotate_left
  · (intro w; go_simp; try (with_reducible rfl))
  refine wpAny_take (i := 39) (v := ?_) rfl (by kernel_rfl) (by kernel_rfl) (by kernel_rfl) (fun _ _ _ h => h) (Or.inl ⟨by rfl, ?_⟩) ?_
  rotate_left
  · (intro w; go_simp; try (with_reducible rfl))
  refine wpAny_take (i := 40) (v := ?_) rfl (by kernel_rfl) (by kernel_rfl) (by kernel_rfl) (fun _ _ _ h => h) (Or.inl ⟨by rfl, ?_⟩) ?_
  rotate_left
  · (intro w; go_simp; try (with_reducible rfl))
  refine wpAny_take (i := 41) (v := ?_) rfl (by kernel_rfl) (by kernel_rfl) (by kernel_rfl) (fun _ _ _ h => h) (Or.inl ⟨by rfl, ?_⟩) ?_
  rotate_left
  · (intro w; go_simp; try (with_reducible rfl))
  refine wpAny_take (i := 42) (v := ?_) rfl (by kernel_rfl) (by kernel_rfl) (by kernel_rfl) (fun _ _ _ h => h) (Or.inl ⟨by rfl, ?_⟩) ?_
  rotate_left
  · (intro w; go_simp; try (with_reducible rfl))
  refine wpAny_take (i := 45) (v := ?_) rfl (by kernel_rfl) (by kernel_rfl) (by kernel_rfl) (fun _ _ _ h => h) (Or.inl ⟨by rfl, ?_⟩) ?_
  rotate_left
  · (intro w; go_simp; try (with_reducible rfl))
  refine wpAny_take (i := 46) (v := ?_) rfl (by kernel_rfl) (by kernel_rfl) (by kernel_rfl) (fun _ _ _ h => h) (Or.inl ⟨by rfl, ?_⟩) ?_
  rotate_left
  · (intro w; go_simp; try (with_reducible rfl))
  refine wpAny_take (i := 47) (v := ?_) rfl (by kernel_rfl) (by kernel_rfl) (by kernel_rfl) (fun _ _ _ h => h) (Or.inl ⟨by rfl, ?_⟩) ?_
  rotate_left
  · (intro w; go_simp; try (with_reducible rfl))
  refine wpAny_take (i := 48) (v := ?_) rfl (by kernel_rfl) (by kernel_rfl) (by kernel_rfl) (fun _ _ _ h => h) (Or.inl ⟨by rfl, ?_⟩) ?_
  rotate_left
  · (intro w; go_simp; try (with_reducible rfl))
  refine wpAny_take (i := 49) (v := ?_) rfl (by kernel_rfl) (by kernel_rfl) (by kernel_rfl) (fun _ _ _ h => h) (Or.inl ⟨by rfl, ?_⟩) ?_
  rotate_left
  · (intro w; go_simp; try (with_reducible rfl))
  refine wpAny_take (i := 52) (v := ?_) rfl (by kernel_rfl) (by kernel_rfl) (by kernel_rfl) (fun _ _ _ h => h) (Or.inl ⟨by rfl, ?_⟩) ?_
  rotate_left
  · (intro w; go_simp; try (with_reducible rfl))
  refine wpAny_take (i := 53) (v := ?_) rfl (by kernel_rfl) (by kernel_rfl) (by kernel_rfl) (fun _ _ _ h => h) (Or.inl ⟨by rfl, ?_⟩) ?_
  rotate_left
  · (intro w; go_simp; try (with_reducible rfl))
  refine wpAny_take (i := 54) (v := ?_) rfl (by kernel_rfl) (by kernel_rfl) (by kernel_rfl) (fun _ _ _ h => h) (Or.inl ⟨by rfl, ?_⟩) ?_
  rotate_left
  · (intro w; go_simp; try (with_reducible rfl))
  refine wpAny_take (i := 55) (v := ?_) rfl (by kernel_rfl) (by kernel_rfl) (by kernel_rfl) (fun _ _ _ h => h) (Or.inl ⟨by rfl, ?_⟩) ?_
  rotate_left
  · (intro w; go_simp; try (with_reducible rfl))
  refine wpAny_take (i := 56) (v := ?_) rfl (by kernel_rfl) (by kernel_rfl) (by kernel_rfl) (fun _ _ _ h => h) (Or.inl ⟨by rfl, ?_⟩) ?_
  rotate_left
  · (intro w; go_simp; try (with_reducible rfl))
  refine wpAny_take (i := 59) (v := ?_) rfl (by kernel_rfl) (by kernel_rfl) (by kernel_rfl) (fun _ _ _ h => h) (Or.inl ⟨by rfl, ?_⟩) ?_
  rotate_left
  · (intro w; go_simp; try (with_reducible rfl))
  refine wpAny_take (i := 60) (v := ?_) rfl (by kernel_rfl) (by kernel_rfl) (by kernel_rfl) (fun _ _ _ h => h) (Or.inl ⟨by rfl, ?_⟩) ?_
  rotate_left
  · (intro w; go_simp; try (with_reducible rfl))
  refine wpAny_take (i := 61) (v := ?_) rfl (by kernel_rfl) (by kernel_rfl) (by kernel_rfl) (fun _ _ _ h => h) (Or.inl ⟨by rfl, ?_⟩) ?_
  rotate_left
  · (intro w; go_simp; try (with_reducible rfl))
  refine wpAny_take (i := 62) (v := ?_) rfl (by kernel_rfl) (by kernel_rfl) (by kernel_rfl) (fun _ _ _ h => h) (Or.inl ⟨by rfl, ?_⟩) ?_
  rotate_left
  · (intro w; go_simp; try (with_reducible rfl))
  refine wpAny_take (i := 63) (v := ?_) rfl (by kernel_rfl) (by kernel_rfl) (by kernel_rfl) (fun _ _ _ h => h) (Or.inl ⟨by rfl, ?_⟩) ?_
  rotate_left
  · (intro w; go_simp; try (with_reducible rfl))
  refine wpAny_take (i := 66) (v := ?_) rfl (by kernel_rfl) (by kernel_rfl) (by kernel_rfl) (fun _ _ _ h => h) (Or.inl ⟨by rfl, ?_⟩) ?_
  rotate_left
  · (intro w; go_simp; try (with_reducible rfl))
  refine wpAny_take (i := 67) (v := ?_) rfl (by kernel_rfl) (by kernel_rfl) (by kernel_rfl) (fun _ _ _ h => h) (Or.inl ⟨by rfl, ?_⟩) ?_
  rotate_left
  · (intro w; go_simp; try (with_reducible rfl))
  refine wpAny_take (i := 68) (v := ?_) rfl (by kernel_rfl) (by kernel_rfl) (by kernel_rfl) (fun _ _ _ h => h) (Or.inl ⟨by rfl, ?_⟩) ?_
  rotate_left
  · (intro w; go_simp; try (with_reducible rfl))
  refine wpAny_take (i := 69) (v := ?_) rfl (by kernel_rfl) (by kernel_rfl) (by kernel_rfl) (fun _ _ _ h => h) (Or.inl ⟨by rfl, ?_⟩) ?_
  rotate_left
  · (intro w; go_simp; try (with_reducible rfl))
  refine wpAny_take (i := 70) (v := ?_) rfl (by kernel_rfl) (by kernel_rfl) (by kernel_rfl) (fun _ _ _ h => h) (Or.inl ⟨by rfl, ?_⟩) ?_
  rotate_left
  · (intro w; go_simp; try (with_reducible rfl))
  refine wpAny_frame (a' := numA jb jo undef s0 undef (.map none)) (by go_simp; rfl) ?_
  refine wpAny_inv (fun l a w1 => ∃ m s u v, a = numA jb jo m s u v ∧ NumSt 195 jb jo w l m s u v w1) ?_ ?_ ?_ _ _ _ _ ⟨_, s0, _, _, rfl, ?_⟩ (by decide +kernel)
  case refine_1 =>
    rintro l a w1 ⟨_, _, _, _, _, h⟩
    exact h.sz
  case refine_2 =>
    rintro l a w1 i ⟨m, s, u, v, rfl, h⟩ hm
    have h0 := (mem_ready.1 hm).1
    have hi : i < 75 := by have := getD_in h0; rw [h.sz] at this; exact this
    rcases ops_cases i hi with hp | rfl | ⟨k, hk, rfl⟩ | ⟨k, hk, rfl⟩ | rfl | rfl
    · rw [h.pure i hp] at h0; cases h0
    · refine wpOp_run (o := ⟨some 3, .makeMap _ _, _, _, _, _⟩) rfl rfl fun K' hK => ?_
      unfold numA
      go_simp
      refine hK _ _ ?_
      exact ⟨_, s, u, v, rfl, h.mk0 h0⟩
    · rcases k with _ | _ | _ | _ | _ | _ | _ | _ | _ | _ | k
      · refine wpOp_run (o := ⟨some 8, .buildSlice _ 1 srcs0, _, _, _, _⟩) rfl rfl fun K' hK => ?_
        unfold numA
        go_simp
        refine hK _ _ ?_
        exact ⟨m, upd s 0 _, u, v, rfl, h.lay (k := 0) (by omega) h0⟩
      · refine wpOp_run (o := ⟨some 13, .buildSlice _ 1 srcs1, _, _, _, _⟩) rfl rfl fun K' hK => ?_
        unfold numA
        go_simp
        refine hK _ _ ?_
        exact ⟨m, upd s 1 _, u, v, rfl, h.lay (k := 1) (by omega) h0⟩
      · refine wpOp_run (o := ⟨some 22, .buildSlice _ 2 srcs2, _, _, _, _⟩) rfl rfl fun K' hK => ?_
        unfold numA
        go_simp
        refine hK _ _ ?_
        exact ⟨m, upd s 2 _, u, v, rfl, h.lay (k := 2) (by omega) h0⟩
      · refine wpOp_run (o := ⟨some 31, .buildSlice _ 2 srcs3, _, _, _, _⟩) rfl rfl fun K' hK => ?_
        unfold numA
        go_simp
        refine hK _ _ ?_
        exact ⟨m, upd s 3 _, u, v, rfl, h.lay (k := 3) (by omega) h0⟩
      · refine wpOp_run (o := ⟨some 36, .buildSlice _ 1 srcs4, _, _, _, _⟩) rfl rfl fun K' hK => ?_
        unfold numA
        go_simp
        refine hK _ _ ?_
        exact ⟨m, upd s 4 _, u, v, rfl, h.lay (k := 4) (by omega) h0⟩
      · refine wpOp_run (o := ⟨some 41, .buildSlice _ 1 srcs5, _, _, _, _⟩) rfl rfl fun K' hK => ?_
        unfold numA
        go_simp
        refine hK _ _ ?_
        exact ⟨m, upd s 5 _, u, v, rfl, h.lay (k := 5) (by omega) h0⟩
      · refine wpOp_run (o := ⟨some 47, .buildSlice _ 1 srcs6, _, _, _, _⟩) rfl rfl fun K' hK => ?_
        unfold numA
        go_simp
        refine hK _ _ ?_
        exact ⟨m, upd s 6 _, u, v, rfl, h.lay (k := 6) (by omega) h0⟩
      · refine wpOp_run (o := ⟨some 53, .buildSlice _ 1 srcs7, _, _, _, _⟩) rfl rfl fun K' hK => ?_
        unfold numA
        go_simp
        refine hK _ _ ?_
        exact ⟨m, upd s 7 _, u, v, rfl, h.lay (k := 7) (by omega) h0⟩
      · refine wpOp_run (o := ⟨some 59, .buildSlice _ 1 srcs8, _, _, _, _⟩) rfl rfl fun K' hK => ?_
        unfold numA
        go_simp
        refine hK _ _ ?_
        exact ⟨m, upd s 8 _, u, v, rfl, h.lay (k := 8) (by omega) h0⟩
      · refine wpOp_run (o := ⟨some 65, .buildSlice _ 1 srcs9, _, _, _, _⟩) rfl rfl fun K' hK => ?_
        unfold numA
        go_simp
        refine hK _ _ ?_
        exact ⟨m, upd s 9 _, u, v, rfl, h.lay (k := 9) (by omega) h0⟩
      · omega
    · rcases k with _ | _ | _ | _ | _ | _ | _ | _ | _ | _ | k
      · have r0 := ready_after hm (i := iS 0 + 1) (o := ⟨none, .insert _ (.tmp 3) (.const _) (.tmp 8), _, _, _, _⟩) rfl 0 rfl rfl
        have r1 := ready_after hm (i := iS 0 + 1) (o := ⟨none, .insert _ (.tmp 3) (.const _) (.tmp 8), _, _, _, _⟩) rfl 1 rfl rfl
        obtain ⟨mb, es, rfl, e2, e3, e4⟩ := h.pre (k := 0) (by omega) r0 h0
        refine wpOp_insert (i := iS 0 + 1) (o := ⟨none, .insert _ (.tmp 3) (.const _) (.tmp 8), _, _, _, _⟩) rfl rfl _ _ _ _ rfl Tryz.underlying189 Tryz.underlying9 rfl rfl rfl e2 e3 fun w2 f1 f2 => ?_
        exact ⟨_, s, u, v, rfl, e4 w2 f1 f2 r1⟩
      · have r0 := ready_after hm (i := iS 1 + 1) (o := ⟨none, .insert _ (.tmp 3) (.const _) (.tmp 13), _, _, _, _⟩) rfl 0 rfl rfl
        have r1 := ready_after hm (i := iS 1 + 1) (o := ⟨none, .insert _ (.tmp 3) (.const _) (.tmp 13), _, _, _, _⟩) rfl 1 rfl rfl
        obtain ⟨mb, es, rfl, e2, e3, e4⟩ := h.pre (k := 1) (by omega) r0 h0
        refine wpOp_insert (i := iS 1 + 1) (o := ⟨none, .insert _ (.tmp 3) (.const _) (.tmp 13), _, _, _, _⟩) rfl rfl _ _ _ _ rfl Tryz.underlying189 Tryz.underlying9 rfl rfl rfl e2 e3 fun w2 f1 f2 => ?_
        exact ⟨_, s, u, v, rfl, e4 w2 f1 f2 r1⟩
      · have r0 := ready_after hm (i := iS 2 + 1) (o := ⟨none, .insert _ (.tmp 3) (.const _) (.tmp 22), _, _, _, _⟩) rfl 0 rfl rfl
        have r1 := ready_after hm (i := iS 2 + 1) (o := ⟨none, .insert _ (.tmp 3) (.const _) (.tmp 22), _, _, _, _⟩) rfl 1 rfl rfl
        obtain ⟨mb, es, rfl, e2, e3, e4⟩ := h.pre (k := 2) (by omega) r0 h0
        refine wpOp_insert (i := iS 2 + 1) (o := ⟨none, .insert _ (.tmp 3) (.const _) (.tmp 22), _, _, _, _⟩) rfl rfl _ _ _ _ rfl Tryz.underlying189 Tryz.underlying9 rfl rfl rfl e2 e3 fun w2 f1 f2 => ?_
        exact ⟨_, s, u, v, rfl, e4 w2 f1 f2 r1⟩
      · have r0 := ready_after hm (i := iS 3 + 1) (o := ⟨none, .insert _ (.tmp 3) (.const _) (.tmp 31), _, _, _, _⟩) rfl 0 rfl rfl
        have r1 := ready_after hm (i := iS 3 + 1) (o := ⟨none, .insert _ (.tmp 3) (.const _) (.tmp 31), _, _, _, _⟩) rfl 1 rfl rfl
        obtain ⟨mb, es, rfl, e2, e3, e4⟩ := h.pre (k := 3) (by omega) r0 h0
        refine wpOp_insert (i := iS 3 + 1) (o := ⟨none, .insert _ (.tmp 3) (.const _) (.tmp 31), _, _, _, _⟩) rfl rfl _ _ _ _ rfl Tryz.underlying189 Tryz.underlying9 rfl rfl rfl e2 e3 fun w2 f1 f2 => ?_
        exact ⟨_, s, u, v, rfl, e4 w2 f1 f2 r1⟩
      · have r0 := ready_after hm (i := iS 4 + 1) (o := ⟨none, .insert _ (.tmp 3) (.const _) (.tmp 36), _, _, _, _⟩) rfl 0 rfl rfl
        have r1 := ready_after hm (i := iS 4 + 1) (o := ⟨none, .insert _ (.tmp 3) (.const _) (.tmp 36), _, _, _, _⟩) rfl 1 rfl rfl
        obtain ⟨mb, es, rfl, e2, e3, e4⟩ := h.pre (k := 4) (by omega) r0 h0
        refine wpOp_insert (i := iS 4 + 1) (o := ⟨none, .insert _ (.tmp 3) (.const _) (.tmp 36), _, _, _, _⟩) rfl rfl _ _ _ _ rfl Tryz.underlying189 Tryz.underlying9 rfl rfl rfl e2 e3 fun w2 f1 f2 => ?_
        exact ⟨_, s, u, v, rfl, e4 w2 f1 f2 r1⟩
      · have r0 := ready_after hm (i := iS 5 + 1) (o := ⟨none, .insert _ (.tmp 3) (.const _) (.tmp 41), _, _, _, _⟩) rfl 0 rfl rfl
        have r1 := ready_after hm (i := iS 5 + 1) (o := ⟨none, .insert _ (.tmp 3) (.const _) (.tmp 41), _, _, _, _⟩) rfl 1 rfl rfl
        obtain ⟨mb, es, rfl, e2, e3, e4⟩ := h.pre (k := 5) (by omega) r0 h0
        refine wpOp_insert (i := iS 5 + 1) (o := ⟨none, .insert _ (.tmp 3) (.const _) (.tmp 41), _, _, _, _⟩) rfl rfl _ _ _ _ rfl Tryz.underlying189 Tryz.underlying9 rfl rfl rfl e2 e3 fun w2 f1 f2 => ?_
        exact ⟨_, s, u, v, rfl, e4 w2 f1 f2 r1⟩
      · have r0 := ready_after hm (i := iS 6 + 1) (o := ⟨none, .insert _ (.tmp 3) (.const _) (.tmp 47), _, _, _, _⟩) rfl 0 rfl rfl
        have r1 := ready_after hm (i := iS 6 + 1) (o := ⟨none, .insert _ (.tmp 3) (.const _) (.tmp 47), _, _, _, _⟩) rfl 1 rfl rfl
        obtain ⟨mb, es, rfl, e2, e3, e4⟩ := h.pre (k := 6) (by omega) r0 h0
        refine wpOp_insert (i := iS 6 + 1) (o := ⟨none, .insert _ (.tmp 3) (.const _) (.tmp 47), _, _, _, _⟩) rfl rfl _ _ _ _ rfl Tryz.underlying189 Tryz.underlying9 rfl rfl rfl e2 e3 fun w2 f1 f2 => ?_
        exact ⟨_, s, u, v, rfl, e4 w2 f1 f2 r1⟩
      · have r0 := ready_after hm (i := iS 7 + 1) (o := ⟨none, .insert _ (.tmp 3) (.const _) (.tmp 53), _, _, _, _⟩) rfl 0 rfl rfl
        have r1 := ready_after hm (i := iS 7 + 1) (o := ⟨none, .insert _ (.tmp 3) (.const _) (.tmp 53), _, _, _, _⟩) rfl 1 rfl rfl
        obtain ⟨mb, es, rfl, e2, e3, e4⟩ := h.pre (k := 7) (by omega) r0 h0
        refine wpOp_insert (i := iS 7 + 1) (o := ⟨none, .insert _ (.tmp 3) (.const _) (.tmp 53), _, _, _, _⟩) rfl rfl _ _ _ _ rfl Tryz.underlying189 Tryz.underlying9 rfl rfl rfl e2 e3 fun w2 f1 f2 => ?_
        exact ⟨_, s, u, v, rfl, e4 w2 f1 f2 r1⟩
      · have r0 := ready_after hm (i := iS 8 + 1) (o := ⟨none, .insert _ (.tmp 3) (.const _) (.tmp 59), _, _, _, _⟩) rfl 0 rfl rfl
        have r1 := ready_after hm (i := iS 8 + 1) (o := ⟨none, .insert _ (.tmp 3) (.const _) (.tmp 59), _, _, _, _⟩) rfl 1 rfl rfl
        obtain ⟨mb, es, rfl, e2, e3, e4⟩ := h.pre (k := 8) (by omega) r0 h0
        refine wpOp_insert (i := iS 8 + 1) (o := ⟨none, .insert _ (.tmp 3) (.const _) (.tmp 59), _, _, _, _⟩) rfl rfl _ _ _ _ rfl Tryz.underlying189 Tryz.underlying9 rfl rfl rfl e2 e3 fun w2 f1 f2 => ?_
        exact ⟨_, s, u, v, rfl, e4 w2 f1 f2 r1⟩
      · have r0 := ready_after hm (i := iS 9 + 1) (o := ⟨none, .insert _ (.tmp 3) (.const _) (.tmp 65), _, _, _, _⟩) rfl 0 rfl rfl
        have r1 := ready_after hm (i := iS 9 + 1) (o := ⟨none, .insert _ (.tmp 3) (.const _) (.tmp 65), _, _, _, _⟩) rfl 1 rfl rfl
        obtain ⟨mb, es, rfl, e2, e3, e4⟩ := h.pre (k := 9) (by omega) r0 h0
        refine wpOp_insert (i := iS 9 + 1) (o := ⟨none, .insert _ (.tmp 3) (.const _) (.tmp 65), _, _, _, _⟩) rfl rfl _ _ _ _ rfl Tryz.underlying189 Tryz.underlying9 rfl rfl rfl e2 e3 fun w2 f1 f2 => ?_
        exact ⟨_, s, u, v, rfl, e4 w2 f1 f2 r1⟩
      · omega
    · have r0 := ready_after hm (i := 73) rfl 0 rfl rfl
      refine wpOp_run (i := 73) (o := ⟨some 66, .move (.tmp 3), _, _, _, _⟩) rfl rfl fun K' hK => ?_
      unfold numA
      go_simp
      refine hK _ _ ?_
      exact ⟨m, s, _, v, rfl, h.f1s r0 h0⟩
    · have r0 := ready_after hm (i := 74) rfl 0 rfl rfl
      refine wpOp_run (i := 74) (o := ⟨some 2, .assign (.tmp 66), _, _, _, _⟩) rfl rfl fun K' hK => ?_
      unfold numA
      go_simp
      refine hK _ _ ?_
      exact ⟨m, s, u, _, rfl, h.f2s r0⟩
  case refine_3 =>
    rintro l a w1 ⟨m, s, u, v, rfl, h⟩ hr
    obtain ⟨mb, es, rfl, h1, h2, h3⟩ := h.done (ready_nil h.sz (by kernel_rfl) hr)
    unfold numA
    go_wp2_with fail
    go_ret
    exact ⟨mb, es, rfl, h1, h2, h3⟩
  case refine_4 =>
    exact NumSt.start (by decide +kernel) (by decide +kernel) (by decide +kernel) (by decide +kernel) (by decide +kernel) (by decide +kernel) (ext_drew w)
end Go.Proofs.YtcklfffeimnfeaaGreat
