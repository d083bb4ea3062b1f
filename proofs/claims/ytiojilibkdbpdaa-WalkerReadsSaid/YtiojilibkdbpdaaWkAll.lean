/- walker.All. -/
import Derived.Test.YtiojilibkdbpdaaWkRefAll
import Derived.StillTailTactics
import Derived.Laws.BitsAllLaws
namespace Go.Proofs.Ytiojilibkdbpdaa
set_option linter.unusedSimpArgs false
set_option linter.unusedVariables false
set_option maxRecDepth 100000
open Go.RowKit

def p4 (b : List UInt8) : Nat → Nat
  | 0 => 0
  | r + 1 => p4 b r + 256 ^ r * b[r]!.toNat
theorem p4_four (b : List UInt8) : p4 b 4 = num4 b := by simp [p4, num4]
theorem p4_lt (b : List UInt8) (r : Nat) : p4 b r < 256 ^ r := by
  induction r with
  | zero => simp [p4]
  | succ r ih =>
    have h := b[r]!.toNat_lt
    rw [p4, Nat.pow_succ]
    calc p4 b r + 256 ^ r * b[r]!.toNat < 256 ^ r + 256 ^ r * b[r]!.toNat := by omega
      _ ≤ 256 ^ r + 256 ^ r * 255 := Nat.add_le_add_left (Nat.mul_le_mul_left _ (by omega)) _
      _ = 256 ^ r * 256 := by omega
/-- the number k behind i bytes -/
def part (R : List UInt8) (i k : Nat) : Nat := p4 (R.drop (4 * k)) (min 4 (i - 4 * k))
theorem part_lt (R : List UInt8) (i k : Nat) : part R i k < 4294967296 := by
  have h := p4_lt (R.drop (4 * k)) (min 4 (i - 4 * k))
  have h2 : 256 ^ (min 4 (i - 4 * k)) ≤ 256 ^ 4 := Nat.pow_le_pow_right (by omega) (Nat.min_le_left _ _)
  unfold part
  omega
theorem part_zero (R : List UInt8) (k : Nat) : part R 0 k = 0 := by simp [part, p4]
theorem part_full (R : List UInt8) (k : Nat) (hk : k < 7) : part R 28 k = num4 (R.drop (4 * k)) := by
  rw [part, show min 4 (28 - 4 * k) = 4 from by omega, p4_four]
theorem part_other (R : List UInt8) (i k : Nat) (h : k ≠ i / 4) : part R (i + 1) k = part R i k := by
  unfold part
  rw [show min 4 (i + 1 - 4 * k) = min 4 (i - 4 * k) from by omega]
theorem part_same (R : List UInt8) (i : Nat) (hi : i < R.length) : part R (i + 1) (i / 4) = part R i (i / 4) + 256 ^ (i % 4) * R[i].toNat ∧ part R i (i / 4) < 256 ^ (i % 4) := by
  unfold part
  have e1 : min 4 (i + 1 - 4 * (i / 4)) = i % 4 + 1 := by omega
  have e2 : min 4 (i - 4 * (i / 4)) = i % 4 := by omega
  rw [e1, e2, p4]
  refine ⟨?_, p4_lt _ _⟩
  have e3 : (R.drop (4 * (i / 4)))[i % 4]! = R[i] := by
    rw [getElem!_pos _ _ (by rw [List.length_drop]; omega), List.getElem_drop]
    congr 1
    omega
  rw [e3]
theorem readW_cells (R : List UInt8) : wkCs (readW R) = #[.int .u32 (num4 R : Nat), .int .u32 (num4 (R.drop 4) : Nat), .int .u32 (num4 (R.drop 8) : Nat), .int .u32 (num4 (R.drop 12) : Nat), .int .u32 (num4 (R.drop 16) : Nat), .int .u32 (num4 (R.drop 20) : Nat), .int .u32 (num4 (R.drop 24) : Nat)] := rfl
def arrC (R : List UInt8) (i : Nat) (C : Array Value) : Prop := C.size = 7 ∧ ∀ k, k < 7 → C[k]? = some (.int .u32 (part R i k : Nat))
theorem arrC_full {R : List UInt8} {C : Array Value} (h : arrC R 28 C) : C = wkCs (readW R) := by
  apply Array.ext_getElem?
  intro k
  by_cases hk : k < 7
  · rw [h.2 k hk, part_full R k hk]
    have hh : k = 0 ∨ k = 1 ∨ k = 2 ∨ k = 3 ∨ k = 4 ∨ k = 5 ∨ k = 6 := by omega
    rcases hh with rfl | rfl | rfl | rfl | rfl | rfl | rfl <;> rfl
  · rw [Array.getElem?_eq_none (by rw [h.1]; omega), Array.getElem?_eq_none (by show 7 ≤ k; omega)]
theorem arrC_step {R : List UInt8} {i : Nat} {C : Array Value} (h : arrC R i C) (hi : i < R.length) (hi7 : i < 28) (n : Nat) (hn : n = part R i (i / 4) + 256 ^ (i % 4) * R[i].toNat) : arrC R (i + 1) (C.setIfInBounds (i / 4) (.int .u32 (n : Nat))) := by
  refine ⟨by rw [Array.size_setIfInBounds]; exact h.1, fun k hk => ?_⟩
  rw [Array.getElem?_setIfInBounds]
  by_cases he : i / 4 = k
  · rw [if_pos he, if_pos (by rw [h.1]; omega), hn, ← (part_same R i hi).1, he]
  · rw [if_neg he, part_other R i k (fun h => he h.symm)]
    exact h.2 k hk
theorem or_byte (p c r : Nat) (hp : p < 256 ^ r) (hr : r ≤ 3) (hc : c < 2 ^ 8) : bits .or .u32 (p : Int) (IntKind.u32.wrap ((c : Int) * 2 ^ (8 * (r : Int)).toNat)) = ((p + 256 ^ r * c : Nat) : Int) := by
  have hh : r = 0 ∨ r = 1 ∨ r = 2 ∨ r = 3 := by omega
  have key : ∀ s : Nat, p < 2 ^ s → p ||| (c * 2 ^ s) = p + 2 ^ s * c := fun s hs => by
    rw [Nat.mul_comm c, Nat.or_comm, ← Nat.two_pow_add_eq_or_of_lt hs, Nat.add_comm]
  have h1 : (c : Int) * 2 ^ (8 * (r : Int)).toNat = ((c * 2 ^ (8 * r) : Nat) : Int) := by
    rw [show (8 * (r : Int)).toNat = 8 * r from by omega]; simp
  have h3 : (256 : Nat) ^ r = 2 ^ (8 * r) := by rw [Nat.pow_mul]
  have hle : 2 ^ (8 * r) ≤ 2 ^ 24 := Nat.pow_le_pow_right (by omega) (by omega)
  have h2 : c * 2 ^ (8 * r) < 4294967296 := by
    calc c * 2 ^ (8 * r) ≤ 255 * 2 ^ 24 := Nat.mul_le_mul (by omega) hle
      _ < 4294967296 := by decide
  rw [h3] at hp ⊢
  rw [h1, IntWalk.u32_in _ (by omega), u32_or_nat p _ (by omega) h2, key _ hp]
def arrI (R : List UInt8) (wq : World) (q : Nat) (i : Nat) (wr : World) : Prop := ∃ C, arrC R i C ∧ wr.heap[q]? = some (.cells C 69 (0, 0)) ∧ Below q wq wr ∧ q < wr.heap.size
def WAllRet (bytes : List UInt8) (w : World) : Ending → World → Prop := AllRet (if bytes.length % 28 = 0 then readMany (bytes.length / 28) bytes else []) (.int .i64 (if bytes.length % 28 = 0 then 0 else 2)) w

set_option maxRecDepth 100000 in
set_option maxHeartbeats 3200000 in
theorem wall_any (bytes : List UInt8) (ao : Option Addr) (cap : Nat) (w : World) (hl : bytes.length ≤ 30000) (hc : bytes.length ≤ cap) (hrd : Rd w ao bytes.length (byteVals bytes)) :
    Calls Try.prog 22 #[.slice ao bytes.length cap] w (WAllRet bytes w) := by
  have hE := wkElem
  have H0 := Lib.hid (show allI w bytes (.slice ao bytes.length cap) (.slice none 0 0) w from
    ⟨0, bytes, ao, cap, none, 0, none, by simp, by omega, rfl, hc, hrd, rfl, OwnS.nil _ _ _ _, (fun k h => by cases h), Below.refl _ _⟩)
  clear hrd hc
  by_cases hv : bytes.length % 28 = 0
  case neg =>
    have hr : (((bytes.length : Int) % 28) != 0) = true := by simp; omega
    have HF := Lib.hid (show WAllRet bytes w (.returned (.tuple #[.slice none 0 0, .int .i64 2])) w from by
      unfold WAllRet
      rw [if_neg hv, if_neg hv]
      exact ⟨_, _, fun _ => False, rfl, RdS.nil _ _ _ _, fun b hb => hb.elim, Below.refl _ _⟩)
    clear hv
    go_enter Try.func22, Try.ntmps22
    go_wp2_with fail
    go_ret2
    exact HF.out
  have hr : (((bytes.length : Int) % 28) != 0) = false := by simp; omega
  go_enter Try.func22, Try.ntmps22
  go_wp2_with fail
  go_loopw [0, 4] (fun v0 v4 wr => allI w bytes v0 v4 wr) (fun v0 _ _ => slLen v0)
  case atStart => exact H0.out
  case round =>
    obtain ⟨j, R, ao', cap', ao2, cap2, g, hR, hj, rfl, hcap, hrd, rfl, hO, hg, hB⟩ := hrel
    rename World => wo
    have hRl : R.length = bytes.length - 28 * j := by rw [hR, List.length_drop]
    by_cases h0 : R.length = 0
    · have hd : decide ((0 : Int) < (R.length : Int)) = false := decide_eq_false (by omega)
      have hd' : decide (0 < R.length) = false := decide_eq_false (by omega)
      have hj2 : bytes.length / 28 = j := by omega
      have HF := Lib.hid (show WAllRet bytes w (.returned (.tuple #[.slice ao2 j cap2, .int .i64 0])) wo from by
        unfold WAllRet
        rw [if_pos hv, hj2, if_pos hv]
        exact ⟨ao2, cap2, _, by rw [readMany_len], hO.rd, fun b hb => by rcases hb with h | h; exact h.elim; exact hg b h, hB⟩)
      clear hR hO hg hB hrd hRl h0 hv hj2 hr
      go_wp2_with fail
      go_ret2
      exact HF.out
    · have hd : decide ((0 : Int) < (R.length : Int)) = true := decide_eq_true (by omega)
      have hd' : decide (0 < R.length) = true := decide_eq_true (by omega)
      have Hge := Lib.hid (show 28 ≤ R.length by omega)
      have Hrd := Lib.hid (hrd.ext hB)
      obtain ⟨a28, hs28, hr28⟩ := drop_run ao' R.length cap' 28 (by omega) hcap 28 rfl
      have Hr := Lib.hid (hr28 w _ hrd)
      have HOs := Lib.hid hO
      have Hg := Lib.hid hg
      have HB := Lib.hid hB
      have Hst := Lib.hid (readMany_step hR)
      have HRl := Lib.hid hRl
      have hjl : j ≤ 30000 := by omega
      clear hr28 hO hg hB hrd hR hRl h0 hv hr
      go_wp2_with fail
      go_loopw [16] (fun i wr => ∃ k : Nat, k ≤ 28 ∧ i = .int .i64 (k : Nat) ∧ arrI R wo wo.heap.size k wr) (fun i _ => 28 - (intOf i).toNat)
      case atStart => exact ⟨0, by omega, rfl, _, ⟨rfl, fun k hk => by rw [part_zero]; match k, hk with | 0, _ => rfl | 1, _ => rfl | 2, _ => rfl | 3, _ => rfl | 4, _ => rfl | 5, _ => rfl | 6, _ => rfl⟩, heap_alloc_new _ _, ext_alloc _ _, by simp⟩
      case round =>
        obtain ⟨k, hk, rfl, C, hC, hh, hBq, hq⟩ := hrel
        rename World => wq
        by_cases hk28 : k < 28
        · obtain ⟨b, off, rfl, hb, hc⟩ := Hrd.out.pos (by have := Hge.out; omega)
          have hkR : k < R.length := by have := Hge.out; omega
          have cb := hc k hkR
          simp only [byteVals, List.getElem?_map, List.getElem?_eq_getElem hkR, Option.map_some] at cb
          have cb := (World.cell?_of_block (w := wo) (hBq.block b hb)).trans cb
          have ck := (cell_of_row wq _ (k / 4) _ _ (0, 0) hh).trans (hC.2 (k / 4) (by omega))
          have fk : wq.frozen? ⟨wo.heap.size, k / 4, none⟩ = false := frozen_of_row wq _ _ _ _ hh
          have hir : (k : Int) < (R.length : Int) := by omega
          have hki : (k : Int) < 28 := by omega
          have HC := Lib.hid hC
          have Hh := Lib.hid hh
          have HBq := Lib.hid hBq
          have Hps := Lib.hid (part_same R k hkR)
          have hpl := part_lt R k (k / 4)
          have hbl := R[k].toNat_lt
          have Hset := Lib.hid (arrC_step hC hkR hk28 _ rfl)
          generalize R[k].toNat = c at *
          generalize part R k (k / 4) = p at *
          have Hq4 := Lib.hid (show k / 4 ≤ 6 ∧ k % 4 ≤ 3 by omega)
          have hq1 : Int.tdiv (k : Int) 4 = ((k / 4 : Nat) : Int) := rfl
          have hq2 : Int.tmod (k : Int) 4 = ((k % 4 : Nat) : Int) := rfl
          have hq3 : (k : Int) / 4 = ((k / 4 : Nat) : Int) := rfl
          have hq4 : (k : Int) % 4 = ((k % 4 : Nat) : Int) := rfl
          generalize k / 4 = q at *
          generalize k % 4 = r at *
          have hq7 : q ≤ 6 := Hq4.out.1
          have hr3 : r ≤ 3 := Hq4.out.2
          have hw1 : IntKind.i64.wrap (q : Int) = (q : Int) := IntWalk.i64_in _ (by omega)
          have hw2 : IntKind.i64.wrap (r : Int) = (r : Int) := IntWalk.i64_in _ (by omega)
          have hw3 : IntKind.i64.wrap (8 * (r : Int)) = 8 * (r : Int) := IntWalk.i64_in _ (by omega)
          have hw4 : IntKind.u32.wrap (c : Int) = (c : Int) := IntWalk.u32_in _ (by omega)
          have hl7 : (q : Int) < 7 := by omega
          clear hc hC hh hBq
          go_wp2_with fail
          refine wp_region_still_tail 15 (by kernel_rfl) (by kernel_rfl) ?_
          change wpStill _ _ (World.drew _) _ _ _
          simp only [List.take_succ_cons, List.take_zero, List.drop_succ_cons, List.drop_zero]
          repeat still_step
          refine wpStill_nil ?_
          change wpList _ _ _ _ _ (World.drew _)
          rw [or_byte p c r Hps.out.2 hr3 hbl]
          clear hq1 hq2 hq3 hq4 hw1 hw2 hw3 hw4
          go_wp2_with fail
          go_roundw
          case rel => exact ⟨k + 1, by omega, by go_num, _, Hset.out, heap_setCells_in wo.heap.size 69 (0, 0) [.int .u32 ((p + 256 ^ r * c : Nat) : Int)] q wq.drew C Hh.out, (HBq.out.drew).setCell (by simp) _, by simp; exact hq⟩
          case measure => simp [intOf]; omega
        · obtain rfl : k = 28 := by omega
          obtain rfl := arrC_full hC
          obtain ⟨x, hx⟩ : ∃ x, readW R = x := ⟨_, rfl⟩
          rw [hx] at hh
          have Hx := Lib.hid hx
          have HI := Lib.hid (show (Try.prog.info? 69).map (·.size) = some (#[.int .u32 (x.id : Nat), .int .u32 (x.step : Nat), .int .u32 (x.at_ : Nat), .int .u32 (x.prev : Nat), .int .u32 (x.next : Nat), .int .u32 (x.try_ : Nat), .int .u32 (x.state : Nat)] : Array Value).size by kernel_rfl)
          have HT := Lib.hid (fun W => (show Calls Try.prog 39 #[.agg #[.int .u32 (x.id : Nat), .int .u32 (x.step : Nat), .int .u32 (x.at_ : Nat), .int .u32 (x.prev : Nat), .int .u32 (x.next : Nat), .int .u32 (x.try_ : Nat), .int .u32 (x.state : Nat)]] W (RetB (.agg #[.int .u32 (x.id : Nat), .int .u32 (x.step : Nat), .int .u32 (x.at_ : Nat), .int .u32 (x.prev : Nat), .int .u32 (x.next : Nat), .int .u32 (x.try_ : Nat), .int .u32 (x.state : Nat)]) W) from together_any x W))
          have Hh := Lib.hid (show wq.heap[wo.heap.size]? = some (.cells #[.int .u32 (x.id : Nat), .int .u32 (x.step : Nat), .int .u32 (x.at_ : Nat), .int .u32 (x.prev : Nat), .int .u32 (x.next : Nat), .int .u32 (x.try_ : Nat), .int .u32 (x.state : Nat)] 69 (0, 0)) from hh)
          obtain ⟨css, hO1, hO2⟩ := HOs.out
          rw [readMany_len] at hO1
          have HO := Lib.hid hO1
          have HO2 := Lib.hid hO2
          have HBq := Lib.hid hBq
          clear hC hh hBq hO1 hO2 hx
          go_wp2_with (first
            | (refine wpList_load_row rfl _ _ rfl wo.heap.size rfl 69 #[.int .u32 (x.id : Nat), .int .u32 (x.step : Nat), .int .u32 (x.at_ : Nat), .int .u32 (x.prev : Nat), .int .u32 (x.next : Nat), .int .u32 (x.try_ : Nat), .int .u32 (x.state : Nat)] (0, 0) _ Hh.out Try.underlying69 rfl HI.out ?_)
            | (go_at_call 39; refine (HT.out _).mono ?_; rintro e w5 ⟨rfl, hB5⟩; have HB5 := Lib.hid hB5; clear hB5)
            | (at_builtin; refine wpList_app rfl (.tmp 35) (.tmp 38) 40 40 rfl hE ((HO.out.ext (HBq.out.trans (HB5.out.mono (Nat.le_of_lt hq)))).alloc _) rfl rfl (srcManyW Try.underlying40 _ _ _ _ 7 _ (by simp) rfl (by simp [Value.oneCell'])) (by simp [maxLen]; omega) (by omega) ?_; intro ao4 cap4 g4 w9 ho4 hg4 hon4; have Ho4 := Lib.hid ho4; have Hg4 := Lib.hid hg4; have Hon4 := Lib.hid hon4; clear ho4 hg4 hon4))
          go_roundw
          case rel => exact allI.step HO2.out HRl.out hj Hge.out Hr.out hcap (HBq.out.trans (HB5.out.mono (Nat.le_of_lt hq))) Hg.out HB.out (by rw [Hx.out]; exact Ho4.out) Hg4.out Hon4.out Hst.out
          case measure => (have := Hge.out; simp only [slLen]; omega)
end Go.Proofs.Ytiojilibkdbpdaa
