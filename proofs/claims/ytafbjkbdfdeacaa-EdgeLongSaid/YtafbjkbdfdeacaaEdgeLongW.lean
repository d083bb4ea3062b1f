/- palmerlaw12.EdgeLong: the walk. -/
import Derived.Test.YtafbjkbdfdeacaaEdgeLaw1
import Derived.Laws.MakeOwn
namespace Go.Proofs.Ytafbjkbdfdeacaa
set_option linter.unusedSimpArgs false
set_option linter.unusedVariables false
open Go.RowKit

attribute [local go_sem] Oper.semAt_some

set_option maxRecDepth 100000 in
set_option maxHeartbeats 1600000 in
theorem eread_long (n : Nat) (hn : 1048576 < n) (ao : Option Addr) (cap : Nat) (w : World) : Calls Try.prog 32 #[.slice ao n cap] w fun e w' => e = .returned (.tuple #[.slice none 0 0, .int .i64 0, .int .i64 4]) ∧ Below w.heap.size w w' := by
  have hmix : Try.prog.follows .mixedOrders = true := by kernel_rfl
  have hd : decide ((1048576 : Int) < n) = true := decide_eq_true (by omega)
  refine (callsIn_wide (n := 0)).1 (callsIn_of_wp_marks Try.func32 rfl trivial ?_)
  simp only [Try.ntmps32, List.size_toArray, List.length_cons, List.length_nil, Nat.reduceAdd, Nat.reduceSub, Array.replicate_succ, Array.replicate_zero, List.push_toArray, List.append_toArray, List.nil_append, List.cons_append]
  gi_wp2_with fail
  refine wpIn_wide.2 (wp_scope_straight ((wpIn_wide (n := 0)).1 ?_))
  gi_wp2_with fail
  change bodyPostM Fence.wide 0 Try.prog Try.f32 _ Exit.ret _ _
  refine leaveM0 (v := .tuple #[.slice none 0 0, .int .i64 0, .int .i64 4]) (by simp [results, Try.results32, go_sem, cell_set_ite, ↓IntWalk.iteOmega]) ⟨rfl, ?_⟩
  exact ((ext_alloc w _).alloc (by simp) _).alloc (by simp; omega) _

def longI (w : World) (i : Value) (wr : World) : Prop := ∃ k : Nat, k ≤ 10 ∧ i = .int .i64 (k : Nat) ∧ Below w.heap.size w wr ∧ ∀ j, j < 10 → (∃ v, wr.cell? ⟨w.heap.size, j, none⟩ = some v) ∧ wr.frozen? ⟨w.heap.size, j, none⟩ = false

set_option maxRecDepth 100000 in
set_option maxHeartbeats 1600000 in
theorem edgeLong_walk (c : Nat) (hc : c < 256) (w : World) : Calls Try.prog 12 #[.int .u8 (c : Nat)] w fun e w' => e = .returned (.bool true) ∧ Below w.heap.size w w' := by
  have hmk : ∃ cs : Array Value, cs.size = 1048577 ∧ (Instr.makeSlice 25 (.int .i64 1048577) (.int .i64 1048577)).run Try.prog w = .ok (.slice (some ⟨w.heap.size, 0, none⟩) 1048577 1048577) (w.alloc (.cells cs 5)) := by
    obtain ⟨i, hi, hz, hsz, hby⟩ := bytesElem.hi
    have h := run_makeSlice (P := Try.prog) (w := w) 25 5 i (.int .u8 0) Try.underlying25 hi hz .i64 .i64 1048577 1048577 (by decide) (by decide) (by rw [hsz]; decide) (by rw [hby]; decide) (by decide)
    refine ⟨_, ?_, h⟩
    rw [size_madeCells, hsz]
    decide
  obtain ⟨cs, hcs, hmk⟩ := hmk
  have Hcs := Lib.hid hcs
  clear hcs
  go_enter Try.func12, Try.ntmps12
  go_wp2_with fail
  have hI : longI w (.int .i64 0) (w.alloc (.cells cs 5)) := by
    refine ⟨0, by omega, rfl, ext_alloc w _, fun j hj => ⟨⟨cs[j]'(by have := Hcs.out; omega), ?_⟩, by simp [go_sem]⟩⟩
    rw [World.cell?_alloc_new]
    exact Array.getElem?_eq_getElem _
  have HI := Lib.hid hI
  clear hI
  generalize w.alloc (.cells cs 5) = wA at HI ⊢
  clear hmk
  go_loopw [4] (fun i wr => longI w i wr) (fun i _ => 10 - (intOf i).toNat)
  case atStart => exact HI.out
  case round =>
    obtain ⟨k, hk, rfl, hB, hcells⟩ := hrel
    have HB := Lib.hid hB
    have Hce := Lib.hid hcells
    by_cases hlt : k < 10
    · obtain ⟨⟨v, hv⟩, hf⟩ := hcells k hlt
      have hir : (k : Int) < 10 := by omega
      have hir2 : (k : Int) < 1048577 := by omega
      have hkn : k < 1048577 := by omega
      clear hB hcells
      go_wp2_with fail
      refine ⟨⟨k + 1, by omega, by go_num, HB.out.setCell (by simp) _, fun j hj => ⟨?_, (World.frozen?_setCell ..).trans (Hce.out j hj).2⟩⟩, by simp [intOf]; omega⟩
      obtain ⟨u, hu⟩ := (Hce.out j hj).1
      by_cases hjk : k = j
      · subst hjk; exact ⟨.int .u8 (c : Nat), by simp [cell_set_ite, hv]⟩
      · exact ⟨u, by simp [cell_set_ite, hu, show ¬ j = k from fun e => hjk e.symm]⟩
    · obtain rfl : k = 10 := by omega
      clear hB hcells
      go_wp2_with (first
        | (go_at_call 32; refine (eread_long 1048577 (by decide) _ _ _).mono ?_; rintro e w2 ⟨rfl, hB2⟩; have HB2 := Lib.hid hB2; clear hB2)
        | (go_at_call 29; refine (awake12_any _).mono ?_; rintro e w9 ⟨rfl, hB9⟩))
      go_ret
      exact ⟨rfl, ext_trans (ext_trans HB.out HB2.out) hB9⟩
end Go.Proofs.Ytafbjkbdfdeacaa
