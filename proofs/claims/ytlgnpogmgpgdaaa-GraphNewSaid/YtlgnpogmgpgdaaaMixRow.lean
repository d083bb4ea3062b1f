/- The iterator of package mix: a tape's row, without end. -/
import Derived.Test.YtlgnpogmgpgdaaaMix
import Derived.Test.YtlgnpogmgpgdaaaRange
namespace Go.Proofs.Ytlgnpogmgpgdaaa
set_option linter.unusedSimpArgs false
set_option linter.unusedVariables false
set_option maxRecDepth 100000
open Go.RowKit

/-- a row's number k -/
def rowZ (d : Int) : Nat → Int
  | 0 => d
  | k + 1 => mixZ (rowZ d k)
def rowOk (d : Int) (pre : List Int) : Prop := pre = (List.range pre.length).map (rowZ d)
theorem rowOk_nil (d : Int) : rowOk d [] := rfl
theorem rowOk_snoc {d : Int} {pre : List Int} (h : rowOk d pre) : rowOk d (pre ++ [rowZ d pre.length]) := by
  unfold rowOk at *
  rw [List.length_append, List.length_singleton, List.range_succ, List.map_append, ← h]
  rfl

theorem rowOk_last {d x : Int} {pre : List Int} (h : rowOk d pre) (h1 : rowOk d (pre ++ [x])) : x = rowZ d pre.length := by
  unfold rowOk at h1 h
  rw [List.length_append, List.length_singleton, List.range_succ, List.map_append, ← h] at h1
  simpa using h1

def RowRel (d : Int) (J : List Int → (Nat → Prop) → World → Prop) (fp : Nat → Prop) (W : World) (N m : Nat) (v : Value) (wr : World) : Prop :=
  ∃ (pre : List Int) (fp1 : Nat → Prop), m + pre.length = N ∧ v = .int .u64 (rowZ d pre.length) ∧ rowOk d pre ∧ J pre fp1 wr ∧ Fwd fp fp1 W wr

attribute [local go_sem] Oper.semAt_some

set_option maxRecDepth 100000 in
set_option maxHeartbeats 1600000 in
theorem row_iter (b : Nat) (s k t a : Int) (N : Nat) :
    Iter Try.prog 103 #[.pointer (some ⟨b, 0, none⟩)] (fun x : Int => #[.int .u64 x]) (rowOk (drawZ s k t a)) (fun _ => False) (fun pre => pre.length ≤ N) (fun _ _ _ => True)
      (fun W => W.cell? ⟨b, 0, none⟩ = some (.int .u64 s) ∧ W.cell? ⟨b, 1, none⟩ = some (.int .u64 k) ∧ W.cell? ⟨b, 2, none⟩ = some (.int .u64 t) ∧ W.cell? ⟨b, 3, none⟩ = some (.int .u64 a)) (fun _ => False) := by
  rintro l J Jx fp W ⟨hc0, hc1, hc2, hc3⟩ hfp hJ hJx hBd hY h0
  refine callsIn_of_wp Try.func103 rfl trivial ?_
  simp only [Try.ntmps103, List.size_toArray, List.length_cons, List.length_nil, Nat.reduceAdd, Nat.reduceSub, Array.replicate_succ, Array.replicate_zero, List.push_toArray, List.append_toArray, List.nil_append, List.cons_append]
  have hf0 : ∀ k, fp k → k < W.heap.size := fun k hk => (hfp k hk).1
  have HJ := Lib.hid hJ
  have HJx := Lib.hid hJx
  have HBd := Lib.hid hBd
  have HY := Lib.hid hY
  have H0 := Lib.hid h0
  have Hf := Lib.hid hf0
  clear hJ hJx hBd hY h0 hfp hf0
  have hdr := draw_any s k t a
  gi_wp2_with (gi_at_call 104; refine (callsIn_wide.2 (hdr _)).mono ?_; rintro e w1 ⟨rfl, hB1⟩)
  have H1 := Lib.hid (J_ext HJ.out H0.out Hf.out hB1)
  have HF1 : Hid (Fwd fp fp W w1) := (Fwd.refl Hf.out).ext hB1
  clear hdr hc0 hc1 hc2 hc3
  gi_loopw [3] (fun v wr => ∃ m, RowRel (drawZ s k t a) J fp W N m v wr) (fun v wr => leastOf (fun m => RowRel (drawZ s k t a) J fp W N m v wr))
  case atStart => exact ⟨N, [], fp, rfl, rfl, rowOk_nil _, H1.out, HF1.out⟩
  case round =>
    obtain ⟨hsp, hmin⟩ := leastOf_spec hrel
    have Hmin := Lib.hid hmin
    clear hmin hrel
    obtain ⟨pre, fp1, hN, hu, hok, hj, hfw⟩ := hsp
    subst hu
    have HN := Lib.hid hN
    have Hok := Lib.hid hok
    have Hj := Lib.hid hj
    have Hfw := Lib.hid hfw
    clear hN hok hj hfw
    obtain ⟨fn, tmps, assign, body, hy, hR⟩ := HY.out pre fp1 _ wr Hj.out (fun k hk => (Hfw.out.own k hk).2) (Hfw.out.only.mono (fun k _ hk => .inl hk)) (rowOk_snoc Hok.out) trivial
    gi_wp2
    refine hR.mono ?_
    clear hR hy
    rintro e W2 ⟨fp2, hfw2, (⟨rfl, hj2⟩ | ⟨rfl, hjx2⟩)⟩
    · have Hj2 := Lib.hid hj2
      have Hfw2 := Lib.hid hfw2
      clear hj2 hfw2
      gi_wp2_with (gi_at_call 105; refine (callsIn_wide.2 (mix_any _ _)).mono ?_; rintro e w' ⟨rfl, rfl⟩)
      have hrel2 : ∀ m2, m2 + 1 + pre.length = N → RowRel (drawZ s k t a) J fp W N m2 (.int .u64 (mixZ (rowZ (drawZ s k t a) pre.length))) W2 := fun m2 h2 =>
        ⟨pre ++ [rowZ (drawZ s k t a) pre.length], fp2, by simp; omega, by simp [rowZ], rowOk_snoc Hok.out, Hj2.out, Hfw.out.trans Hfw2.out⟩
      have hb2 := HBd.out _ _ _ Hj2.out
      rw [List.length_append, List.length_singleton] at hb2
      have hN := HN.out
      go_roundw
      case rel => exact ⟨_, hrel2 (N - 1 - pre.length) (by omega)⟩
      case measure => exact Nat.lt_of_le_of_lt (leastOf_le (p := fun m => RowRel (drawZ s k t a) J fp W N m (.int .u64 (mixZ (rowZ (drawZ s k t a) pre.length))) W2) (hrel2 (N - 1 - pre.length) (by omega))) (by show _ < leastOf (fun n => RowRel (drawZ s k t a) J fp W N n (Value.int IntKind.u64 (rowZ (drawZ s k t a) pre.length)) wr); omega)
    · gi_wp2
      go_end0
      exact ⟨⟨_, rfl⟩, _, fp2, (Hfw.out.trans hfw2).wider (fun k hk => .inl hk), fun i hi => ((Hfw.out.trans hfw2).own i hi).1, .inr ⟨rowOk_snoc Hok.out, hjx2⟩⟩

set_option maxHeartbeats 400000 in
theorem row_any (s k t a : Int) (w : World) :
    Calls Try.prog 84 #[.agg #[.int .u64 s, .int .u64 k, .int .u64 t, .int .u64 a]] w fun e w' => e = .returned (.func (.func 103) #[] #[.pointer (some ⟨w.heap.size, 0, none⟩)]) ∧ w' = w.alloc (.cells #[.int .u64 s, .int .u64 k, .int .u64 t, .int .u64 a] 97) := by
  have hmf : ∀ (fn : Fn) (first cap : Array Value) (w : World), (Instr.makeFunc fn first cap).run Try.prog w = .ok (.func fn first cap) w := fun _ _ _ _ => rfl
  go_enter Try.func84, Try.ntmps84
  go_wp2
  go_ret
  exact ⟨rfl, rfl⟩
end Go.Proofs.Ytlgnpogmgpgdaaa
