/- palmerref17.Remap. -/
import Derived.Test.YtcklfffeimnfeaaGreatRefRemap
import Derived.Test.YtcklfffeimnfeaaGreatRefBelowW
set_option maxRecDepth 100000
set_option maxHeartbeats 12800000
set_option linter.unusedSimpArgs false
set_option linter.unusedVariables false
namespace Go.Proofs.YtcklfffeimnfeaaGreat
open Go.RowKit

theorem rremap_any (l : List ArcD) (t : List CellD) (x : Nat) (ao bo : Option Addr) (ca cb : Nat) (fp fq : Nat → Prop) (w : World) (hl : l.length ≤ 1000) (hne : l ≠ []) (hm : mayA l = true) (hT : RightT (l.map (·.2)) t) (hx : x < totalM l) (hcap : l.length ≤ ca) (hrd : RdS arcRep fp w ao l) (hrt : RdS cellRep fq w bo t) :
    Calls Tryz.prog 77 #[.slice ao l.length ca, .slice bo t.length cb, .int .u64 (x : Nat)] w (RetB (.int .u64 (remapT (l.map (·.2)) t x : Nat)) w) := by
  obtain ⟨htot, hsum, hlen⟩ := totalM_pos hm hne
  have htl : t.length = l.length := by rw [hT.1, List.length_map]
  have hs := (of_decide_eq_true hm).2.2
  have hxw : x < (l.map (·.2)).length * (l.map (·.2)).sum := by rw [List.length_map, Nat.mul_comm]; exact htot ▸ hx
  have htv : toT t (sumA l) x < l.length := by
    have h := toT_lt hT hxw
    rw [List.length_map] at h
    exact h
  have hmx : l.length * sumA l ≤ 1000 * 2147483647 := Nat.mul_le_mul hl hs
  have hbd := remap_bd hT hxw
  rw [List.length_map] at hbd hxw
  have hbd2 : remapT (l.map (·.2)) t x < 1000 * 2147483647 := Nat.lt_of_lt_of_le hbd hmx
  have hxb : x < 1000 * 2147483647 := Nat.lt_of_lt_of_le hxw hmx
  have hrm : remapT (l.map (·.2)) t x = l.length * sumA (l.take (toT t (sumA l) x)) + belowT (sumA l) (toT t (sumA l) x) x 0 t := by
    unfold remapT frontT
    rw [List.length_map, sum_takeA]; rfl
  have HA := Lib.hid (fun W (h : Below w.heap.size w W) => ralias_any l t x ao bo ca cb fp fq W hl hne hm hT hx (hrd.ext h) (hrt.ext h))
  have HS := Lib.hid (fun W (h : Below w.heap.size w W) => rsum_any l ao ca fp W (by omega) (hrd.ext h))
  have HSt := Lib.hid (fun W (h : Below w.heap.size w W) => (show Calls Tryz.prog 56 #[.slice ao (toT t (sumA l) x) ca] W (RetB (.int .u64 (sumA (l.take (toT t (sumA l) x)) : Nat)) W) from by
    have h1 := rsum_any (l.take (toT t (sumA l) x)) ao ca fp W (by rw [List.length_take]; omega) ((hrd.ext h).take _)
    rw [List.length_take, Nat.min_eq_left (Nat.le_of_lt htv)] at h1
    exact h1))
  have HBl := Lib.hid (fun W (h : Below w.heap.size w W) => rbelow17_any t (sumA l) (toT t (sumA l) x) x hs (by omega) (by omega) (by rw [hrm] at hbd2; omega) bo cb fq W (by omega) (hrt.ext h))
  rw [hrm] at hbd2 ⊢
  rw [htl] at HBl HA ⊢
  have hsl := fun W => takeA_run ao l.length ca (toT t (sumA l) x) (by omega) W
  clear hrd hrt htot hsum hs hxw hmx hbd hrm hx hT hm hne htl hxb
  generalize belowT (sumA l) (toT t (sumA l) x) x 0 t = bl at *
  generalize toT t (sumA l) x = tv at *
  obtain ⟨st, hst⟩ : ∃ st, sumA (l.take tv) = st := ⟨_, rfl⟩
  rw [hst] at HSt hbd2 ⊢
  clear hst
  generalize sumA l = s at *
  obtain ⟨m, hm⟩ : ∃ m, l.length * st = m := ⟨_, rfl⟩
  rw [hm] at hbd2 ⊢
  have hm1 : (l.length : Int) * (st : Int) = (m : Int) := by rw [← hm]; simp
  have hm2 : IntKind.u64.wrap ((l.length : Int) * (st : Int)) = (m : Int) := by rw [hm1]; exact IntWalk.u64_in _ (by omega)
  have hlw : IntKind.u64.wrap (l.length : Int) = (l.length : Int) := IntWalk.u64_in _ (by omega)
  clear hm
  go_enter Tryz.func77, Tryz.ntmps77
  go_wp2_with (first
    | (go_at_call 119; (with_reducible refine (HA.out _ (Below.refl _ _)).mono ?_); rintro e w1 ⟨rfl, hB⟩; have B1 := Lib.hid hB; clear hB)
    | (go_at_call 56; (with_reducible refine (HSt.out _ B1.out).mono ?_); rintro e w2 ⟨rfl, hB⟩; have B2 := Lib.hid (B1.out.trans (hB.mono B1.out.size)); clear hB)
    | (go_at_call 56; (with_reducible refine (HS.out _ B2.out).mono ?_); rintro e w3 ⟨rfl, hB⟩; have B3 := Lib.hid (B2.out.trans (hB.mono B2.out.size)); clear hB)
    | (go_at_call 120; (with_reducible refine (HBl.out _ B3.out).mono ?_); rintro e w4 ⟨rfl, hB⟩; have B4 := Lib.hid (B3.out.trans (hB.mono B3.out.size)); clear hB))
  go_ret
  refine ⟨?_, B4.out⟩
  refine congrArg (fun n => Ending.returned (Value.int .u64 n)) ?_
  first
    | rfl
    | (simp; done)
    | (simp [IntKind.wrap, IntKind.bits, IntKind.signed]; omega)
end Go.Proofs.YtcklfffeimnfeaaGreat
