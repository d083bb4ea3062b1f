/- pick.Alias. -/
import Derived.Test.YtlgnpogmgpgdaaaPickW
namespace Go.Proofs.Ytlgnpogmgpgdaaa
set_option linter.unusedSimpArgs false
set_option linter.unusedVariables false
set_option maxRecDepth 100000
open Go.RowKit

def aliasV : Option Nat → Value
  | none => .tuple #[.int .i64 0, .bool false]
  | some i => .tuple #[.int .i64 (i : Nat), .bool true]
set_option maxRecDepth 100000 in
set_option maxHeartbeats 3200000 in
theorem alias_any (l : List ArcD) (t : List CellD) (x : Nat) (hx : x < 18446744073709551616) (ao bo : Option Addr) (ca cb : Nat) (fp fq : Nat → Prop) (w : World) (hl : l.length ≤ 100000) (htl : t.length ≤ 100000) (hrd : RdS arcRep fp w ao l) (hrt : RdS cellRep fq w bo t) :
    Calls Try.prog 49 #[.slice ao l.length ca, .slice bo t.length cb, .int .u64 (x : Nat)] w (RetB (aliasV (aliasM l t x)) w) := by
  have HT := Lib.hid (fun W (h : Below w.heap.size w W) => total_any l ao ca fp W hl (hrd.ext h))
  have HS := Lib.hid (fun W (h : Below w.heap.size w W) => gsum_any l ao ca fp W (by omega) (hrd.ext h))
  by_cases hlt : l.length = t.length
  case neg =>
    have hv : aliasM l t x = none := by unfold aliasM; rw [if_pos (.inl hlt)]
    have d1 : (l.length != t.length) = true := bne_iff_ne.2 hlt
    have d1' : ((l.length : Int) != (t.length : Int)) = true := bne_iff_ne.2 (by omega)
    rw [hv]
    clear hv hlt hrd hrt
    go_enter Try.func49, Try.ntmps49
    go_wp2_with fail
    go_ret2
    exact ⟨rfl, Below.refl _ _⟩
  have d1 : (l.length != l.length) = false := bne_eq_false_iff_eq.2 rfl
  have d1' : ((l.length : Int) != (l.length : Int)) = false := bne_eq_false_iff_eq.2 rfl
  rw [← hlt]
  by_cases hxt : totalM l ≤ x
  · have hv : aliasM l t x = none := by unfold aliasM; rw [if_pos (.inr hxt)]
    have d2 : decide (totalM l ≤ x) = true := decide_eq_true hxt
    have d2' : decide ((totalM l : Int) ≤ (x : Int)) = true := decide_eq_true (by omega)
    rw [hv]
    clear hv hrd hrt hxt hlt
    generalize totalM l = tot at *
    go_enter Try.func49, Try.ntmps49
    go_wp2_with (go_at_call 52; (with_reducible refine (HT.out _ (Below.refl _ _)).mono ?_); rintro e w1 ⟨rfl, hB⟩; have B1 := Lib.hid hB; clear hB)
    go_ret2
    exact ⟨rfl, B1.out⟩
  have hma : mayA l = true := by
    cases e : mayA l with
    | true => rfl
    | false => exact absurd (Nat.zero_le x) (by unfold totalM at hxt; rw [e] at hxt; simp at hxt)
  have htot : totalM l = sumA l * l.length := by unfold totalM; rw [if_pos hma]
  have hs2 := (of_decide_eq_true hma).2.2
  have hs0 : 0 < sumA l := by
    rcases Nat.eq_zero_or_pos (sumA l) with h | h
    · rw [htot, h] at hxt; simp at hxt
    · exact h
  have hqt : x / sumA l < t.length := by
    rw [Nat.div_lt_iff_lt_mul hs0, ← hlt, Nat.mul_comm]
    rw [htot] at hxt; omega
  have d2 : decide (totalM l ≤ x) = false := decide_eq_false hxt
  have d2' : decide ((totalM l : Int) ≤ (x : Int)) = false := decide_eq_false (by omega)
  have hav : aliasM l t x = (if x % sumA l < t[x / sumA l]!.1 then some (x / sumA l) else if t[x / sumA l]!.2 < l.length then some t[x / sumA l]!.2 else none) := by
    unfold aliasM
    rw [if_neg (by omega)]
  rw [getElem!_pos t _ hqt] at hav
  obtain ⟨b, off, rfl, hb, hc0, hc1, hok⟩ := hrt.cel _ hqt
  obtain ⟨c, hc⟩ : ∃ c, t[x / sumA l]'hqt = c := ⟨_, rfl⟩
  rw [hc] at hc0 hc1 hok hav
  clear hc
  obtain ⟨c0, c1⟩ := c
  simp only at hc0 hc1 hav
  have hok1 : c0 < 18446744073709551616 := hok.1
  have hok2 : c1 < 4294967296 := hok.2
  have e1 : Int.tdiv (x : Int) (sumA l : Int) = ((x / sumA l : Nat) : Int) := rfl
  have e2 : (x : Int) / (sumA l : Int) = ((x / sumA l : Nat) : Int) := rfl
  have e3 : Int.tmod (x : Int) (sumA l : Int) = ((x % sumA l : Nat) : Int) := rfl
  have e4 : (x : Int) % (sumA l : Int) = ((x % sumA l : Nat) : Int) := rfl
  have hr : x % sumA l < sumA l := Nat.mod_lt _ hs0
  have hle := totalM_le hl
  have hB0 := Lib.hid (fun W (h : Below w.heap.size w W) => (show W.cell? ⟨b, off + x / sumA l * 2, none⟩ = some (.int .u64 (c0 : Nat)) ∧ W.cell? ⟨b, off + x / sumA l * 2 + 1, none⟩ = some (.int .u32 (c1 : Nat)) from ⟨((bcell h).1 _ _ hb).trans hc0, ((bcell h).1 _ _ hb).trans hc1⟩))
  clear hrd hrt hma htot hxt hc0 hc1 hok
  generalize totalM l = tot at *
  generalize sumA l = s at *
  generalize x / s = q at *
  generalize x % s = r at *
  rw [← hlt] at hqt
  clear hlt
  have hqi : (q : Int) < (l.length : Int) := by omega
  have hq5 : q ≤ 100000 := by omega
  have hs1 : (1 : Int) ≤ (s : Int) := by omega
  have w1 : IntKind.u64.wrap (q : Int) = (q : Int) := IntWalk.u64_in _ (by omega)
  have w2 : IntKind.u64.wrap (r : Int) = (r : Int) := IntWalk.u64_in _ (by omega)
  have w3 : IntKind.i64.wrap (q : Int) = (q : Int) := IntWalk.i64_in _ (by omega)
  have w4 : IntKind.i64.wrap (c1 : Int) = (c1 : Int) := IntWalk.i64_in _ (by omega)
  have Hav := Lib.hid hav
  clear hav
  by_cases hrc : r < c0
  · have g1 : decide (r < c0) = true := decide_eq_true hrc
    have g1' : decide ((r : Int) < (c0 : Int)) = true := decide_eq_true (by omega)
    rw [if_pos hrc] at Hav
    clear hrc
    go_enter Try.func49, Try.ntmps49
    go_wp2_with (first
      | (go_at_call 52; (with_reducible refine (HT.out _ (Below.refl _ _)).mono ?_); rintro e w5 ⟨rfl, hB⟩; have B1 := Lib.hid hB; clear hB)
      | (go_at_call 77; (with_reducible refine (HS.out _ B1.out).mono ?_); rintro e w6 ⟨rfl, hB⟩; have hB2 := B1.out.trans (hB.mono B1.out.size); obtain ⟨k0, k1⟩ := hB0.out _ hB2; have B2 := Lib.hid hB2; clear hB hB2))
    go_quiet (fail)
    go_wp2_with fail
    go_ret2
    refine ⟨by rw [Hav.out]; rfl, below_drewN (B2.out.alloc B2.out.size _) _⟩
  · have g1 : decide (r < c0) = false := decide_eq_false hrc
    have g1' : decide ((r : Int) < (c0 : Int)) = false := decide_eq_false (by omega)
    rw [if_neg hrc] at Hav
    clear hrc
    by_cases hol : c1 < l.length
    · have o1 : decide (c1 < l.length) = true := decide_eq_true hol
      have o1' : decide ((c1 : Int) < (l.length : Int)) = true := decide_eq_true (by omega)
      rw [if_pos hol] at Hav
      clear hol
      go_enter Try.func49, Try.ntmps49
      go_wp2_with (first
        | (go_at_call 52; (with_reducible refine (HT.out _ (Below.refl _ _)).mono ?_); rintro e w5 ⟨rfl, hB⟩; have B1 := Lib.hid hB; clear hB)
        | (go_at_call 77; (with_reducible refine (HS.out _ B1.out).mono ?_); rintro e w6 ⟨rfl, hB⟩; have hB2 := B1.out.trans (hB.mono B1.out.size); obtain ⟨k0, k1⟩ := hB0.out _ hB2; have B2 := Lib.hid hB2; clear hB hB2))
      go_quiet (fail)
      go_wp2_with fail
      go_ret2
      refine ⟨by rw [Hav.out]; rfl, below_drewN (B2.out.alloc B2.out.size _) _⟩
    · have o1 : decide (c1 < l.length) = false := decide_eq_false hol
      have o1' : decide ((c1 : Int) < (l.length : Int)) = false := decide_eq_false (by omega)
      rw [if_neg hol] at Hav
      clear hol
      go_enter Try.func49, Try.ntmps49
      go_wp2_with (first
        | (go_at_call 52; (with_reducible refine (HT.out _ (Below.refl _ _)).mono ?_); rintro e w5 ⟨rfl, hB⟩; have B1 := Lib.hid hB; clear hB)
        | (go_at_call 77; (with_reducible refine (HS.out _ B1.out).mono ?_); rintro e w6 ⟨rfl, hB⟩; have hB2 := B1.out.trans (hB.mono B1.out.size); obtain ⟨k0, k1⟩ := hB0.out _ hB2; have B2 := Lib.hid hB2; clear hB hB2))
      go_quiet (fail)
      go_wp2_with fail
      go_ret2
      refine ⟨by rw [Hav.out]; rfl, below_drewN (B2.out.alloc B2.out.size _) _⟩
end Go.Proofs.Ytlgnpogmgpgdaaa
