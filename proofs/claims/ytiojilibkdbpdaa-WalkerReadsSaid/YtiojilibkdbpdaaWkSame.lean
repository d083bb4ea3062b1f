/- The reference's Same of walkers; a slice's rear; numbers apart and together. -/
import Derived.Test.YtiojilibkdbpdaaWkRefPut
namespace Go.Proofs.Ytiojilibkdbpdaa
set_option linter.unusedSimpArgs false
set_option linter.unusedVariables false
set_option maxRecDepth 100000
open Go.RowKit

def wsameI (n : Nat) (w : World) (i : Value) (wr : World) : Prop := ∃ k m : Nat, k ≤ n ∧ i = .int .i64 (k : Nat) ∧ wr = w.drewN m
set_option maxRecDepth 100000 in
set_option maxHeartbeats 1600000 in
theorem wsame_any (l : List WkD) (ao bo : Option Addr) (ca cb : Nat) (fa fb : Nat → Prop) (w : World) (hl : l.length ≤ 1000) (ha : RdS Rep.wk fa w ao l) (hb : RdS Rep.wk fb w bo l) :
    Calls Try.prog 23 #[.slice ao l.length ca, .slice bo l.length cb] w (RetB (.bool true) w) := by
  have hne : ((l.length : Int) != (l.length : Int)) = false := by simp
  have Ha := Lib.hid ha
  have Hb := Lib.hid hb
  clear ha hb
  go_enter Try.func23, Try.ntmps23
  go_wp2_with fail
  go_loopw [5, 13] (fun v i wr => wsameI l.length w i wr) (fun _ i _ => l.length - (intOf i).toNat)
  case atStart => exact ⟨0, 0, by omega, rfl, rfl⟩
  case round =>
    obtain ⟨k, m, hk, rfl, rfl⟩ := hrel
    by_cases hlt : k < l.length
    · obtain ⟨ba, oa, rfl, _, hba, _, a0, a1, a2, a3, a4, a5, a6⟩ := Ha.out.wk k hlt
      obtain ⟨bb, ob, rfl, _, hbb, _, b0, b1, b2, b3, b4, b5, b6⟩ := Hb.out.wk k hlt
      have hir : (k : Int) < (l.length : Int) := by omega
      generalize l[k] = x at a0 a1 a2 a3 a4 a5 a6 b0 b1 b2 b3 b4 b5 b6
      have heq : ∀ W, (Op.equalIn 10000 31 (.agg #[.int .u32 (x.id : Nat), .int .u32 (x.step : Nat), .int .u32 (x.at_ : Nat), .int .u32 (x.prev : Nat), .int .u32 (x.next : Nat), .int .u32 (x.try_ : Nat), .int .u32 (x.state : Nat)]) (.agg #[.int .u32 (x.id : Nat), .int .u32 (x.step : Nat), .int .u32 (x.at_ : Nat), .int .u32 (x.prev : Nat), .int .u32 (x.next : Nat), .int .u32 (x.try_ : Nat), .int .u32 (x.state : Nat)])).run Try.prog W = .ok true W := fun W => (eq_walker x x W).trans (by simp)
      go_wp2_with fail
      go_quiet (fail)
      go_wp2_with fail
      exact ⟨⟨k + 1, _, by omega, by go_num, rfl⟩, by simp [intOf]; omega⟩
    · obtain rfl : k = l.length := by omega
      go_wp2_with fail
      go_ret
      exact ⟨rfl, ext_drewN _ _⟩
/-- s[k:] -/
theorem drop_run (ao : Option Addr) (len cap k : Nat) (hk : k ≤ len) (hc : len ≤ cap) (z : Int) (hz : (k : Int) = z) : ∃ ao', (∀ W, (Instr.sliceAt 39 (.slice ao len cap) (some (.int .i64 z)) none none).run Try.prog W = .ok (.slice ao' (len - k) (cap - k)) W) ∧
    ∀ W xs, Rd W ao len xs → Rd W ao' (len - k) (xs.drop k) := by
  subst hz
  refine ⟨if cap = k then ao else ao.map (·.add (k * 1)), fun W => ?_, fun W xs h => ?_⟩
  · have hu : Try.prog.underlying 39 = some (.slice (Try.prog.elem 39)) := by kernel_rfl
    rw [run_sliceAt_slice W 39 _ _ _ _ hu, run_slice_l W 39 ao len cap hu .i64 (k : Int) (by omega) (by omega)]
    have hs : (sizeOf (Try.prog.elem 39)).run Try.prog W = .ok 1 W := by kernel_rfl
    rw [hs]
    simp [sliced, Result.andThen]
  · refine ⟨by rw [List.length_drop, h.1], ?_⟩
    by_cases hkl : len - k = 0
    · exact .inl hkl
    · obtain ⟨b, off, rfl, hb, hc2⟩ := h.pos (by omega)
      rw [if_neg (by omega)]
      refine .inr ⟨b, off + k, by simp [Addr.add_lit], hb, fun j hj => ?_⟩
      rw [Nat.add_assoc, hc2 (k + j) (by omega), List.getElem?_drop]
set_option maxHeartbeats 1600000 in
theorem together_any (x : WkD) (w : World) : Calls Try.prog 39 #[.agg (wkCs x)] w (RetB (.agg (wkCs x)) w) := by
  obtain ⟨a, b, c, d, e, f, g⟩ := x
  unfold wkCs
  go_enter Try.func39, Try.ntmps39
  go_wp2_with fail
  exact bodyPost_ret (results_cell_row rfl _ _ (w.heap.size + 1) 31 _ (0, 0) _ rfl (heap_alloc2_new _ _ _) Try.underlying31 rfl (show _ = some 7 by kernel_rfl)) rfl ⟨rfl, (ext_alloc w _).alloc (by simp) _⟩
/-- number of four bytes -/
def NumRet (n : Nat) (w : World) (e : Ending) (w' : World) : Prop := e = .returned (.int .u32 (n : Nat)) ∧ ∃ m, w' = w.drewN m
set_option maxHeartbeats 1600000 in
theorem rnumber_any (R : List UInt8) (ao : Option Addr) (cap : Nat) (w : World) (hR : 4 ≤ R.length) (hrd : Rd w ao R.length (byteVals R)) :
    Calls Try.prog 40 #[.slice ao R.length cap] w (NumRet (num4 R) w) := by
  obtain ⟨b, off, rfl, hb, hc⟩ := hrd.pos (by omega)
  have c0 := hc 0 (by omega)
  have c1 := hc 1 (by omega)
  have c2 := hc 2 (by omega)
  have c3 := hc 3 (by omega)
  simp only [byteVals, List.getElem?_map, List.getElem?_eq_getElem (show 0 < R.length by omega), List.getElem?_eq_getElem (show 1 < R.length by omega), List.getElem?_eq_getElem (show 2 < R.length by omega), List.getElem?_eq_getElem (show 3 < R.length by omega), Option.map_some] at c0 c1 c2 c3
  rw [Nat.add_zero] at c0
  have hn : num4 R = R[0].toNat + 256 * R[1].toNat + 65536 * R[2].toNat + 16777216 * R[3].toNat := by
    unfold num4
    rw [getElem!_pos R 0 (by omega), getElem!_pos R 1 (by omega), getElem!_pos R 2 (by omega), getElem!_pos R 3 (by omega)]
  have Hn := Lib.hid hn
  have h0 := R[0].toNat_lt
  have h1 := R[1].toNat_lt
  have h2 := R[2].toNat_lt
  have h3 := R[3].toNat_lt
  have hl0 : (0 : Int) < (R.length : Int) := by omega
  have hl0' : 0 < R.length := by omega
  have hl1' : 1 < R.length := by omega
  have hl2' : 2 < R.length := by omega
  have hl3' : 3 < R.length := by omega
  have hl1 : (1 : Int) < (R.length : Int) := by omega
  have hl2 : (2 : Int) < (R.length : Int) := by omega
  have hl3 : (3 : Int) < (R.length : Int) := by omega
  clear hn hc hrd
  generalize R[0].toNat = a0 at *
  generalize R[1].toNat = a1 at *
  generalize R[2].toNat = a2 at *
  generalize R[3].toNat = a3 at *
  have u0 : IntKind.u32.wrap (a0 : Int) = (a0 : Int) := IntWalk.u32_in _ (by omega)
  have u1 : IntKind.u32.wrap (a1 : Int) = (a1 : Int) := IntWalk.u32_in _ (by omega)
  have u2 : IntKind.u32.wrap (a2 : Int) = (a2 : Int) := IntWalk.u32_in _ (by omega)
  have u3 : IntKind.u32.wrap (a3 : Int) = (a3 : Int) := IntWalk.u32_in _ (by omega)
  have v1 : IntKind.u32.wrap (256 * (a1 : Int)) = 256 * (a1 : Int) := IntWalk.u32_in _ (by omega)
  have v2 : IntKind.u32.wrap (65536 * (a2 : Int)) = 65536 * (a2 : Int) := IntWalk.u32_in _ (by omega)
  have v3 : IntKind.u32.wrap (16777216 * (a3 : Int)) = 16777216 * (a3 : Int) := IntWalk.u32_in _ (by omega)
  have s1 : IntKind.u32.wrap ((a0 : Int) + 256 * (a1 : Int)) = (a0 : Int) + 256 * (a1 : Int) := IntWalk.u32_in _ (by omega)
  have s2 : IntKind.u32.wrap ((a0 : Int) + 256 * (a1 : Int) + 65536 * (a2 : Int)) = (a0 : Int) + 256 * (a1 : Int) + 65536 * (a2 : Int) := IntWalk.u32_in _ (by omega)
  have s3 : IntKind.u32.wrap ((a0 : Int) + 256 * (a1 : Int) + 65536 * (a2 : Int) + 16777216 * (a3 : Int)) = (a0 : Int) + 256 * (a1 : Int) + 65536 * (a2 : Int) + 16777216 * (a3 : Int) := IntWalk.u32_in _ (by omega)
  go_enter Try.func40, Try.ntmps40
  go_wp2_with fail
  go_quiet (fail)
  go_wp2_with fail
  clear u0 u1 u2 u3 v1 v2 v3 s1 s2 s3
  go_ret
  refine ⟨?_, _, rfl⟩
  rw [Hn.out]
  simp
end Go.Proofs.Ytiojilibkdbpdaa
