/- The iterator behind slices.Values at [][]byte. -/
import Derived.Test.YtlgnpogmgpgdaaaRangeT
import Derived.Test.YtlgnpogmgpgdaaaRep
import Derived.Test.YtlgnpogmgpgdaaaProg
import Derived.RegionIn
import Derived.Scope
namespace Go.Proofs.Ytlgnpogmgpgdaaa
set_option linter.unusedSimpArgs false
set_option linter.unusedVariables false
set_option maxRecDepth 100000
open Go.RowKit

/-- a row of bytes, and the value by which it is told -/
abbrev RowV := List UInt8 × Value
def valsRel (recs : List (List UInt8)) (J : List RowV → (Nat → Prop) → World → Prop) (fp : Nat → Prop) (W : World) (i : Value) (wr : World) : Prop :=
  ∃ (pre : List RowV) (fp1 : Nat → Prop) (k : Nat), i = .int .i64 k ∧ k ≤ recs.length ∧ pre.map (·.1) = recs.take k ∧ J pre fp1 wr ∧ Fwd (fun k => fp k ∨ False) fp1 W wr ∧ (∀ k, fp1 k → fp k ∨ W.heap.size ≤ k)
/-- how a row is told -/
def rowAt (rfp : Nat → Prop) (x : RowV) (W : World) : Prop := ∃ ao cap, x.2 = .slice ao x.1.length cap ∧ x.1.length ≤ cap ∧ cap ≤ maxLen ∧ RdS Rep.u8 rfp W ao x.1

attribute [local go_sem] Oper.semAt_some

set_option maxRecDepth 100000 in
set_option maxHeartbeats 1600000 in
theorem vals_iter (b : Nat) (recs : List (List UInt8)) (ao : Option Addr) (cap : Nat) (rfp : Nat → Prop) (hl : recs.length ≤ 1073741824) :
    IterR Try.prog 126 #[.pointer (some ⟨b, 0, none⟩)] (fun x => #[x.2]) (fun pre => pre.map (·.1) <+: recs) (fun xs => xs.map (·.1) = recs) (fun _ => True)
      (fun pre x W => rowAt rfp x W ∧ recs[pre.length]? = some x.1)
      (fun W => W.cell? ⟨b, 0, none⟩ = some (.slice ao recs.length cap) ∧ RdS (Rep.slice Rep.u8) rfp W ao recs) (fun k => k = b ∨ rfp k) (fun _ => False) := by
  rintro ly J Jx fp W ⟨hc, hrd⟩ hfp hJ hJx _ hY h0
  have hb : b < W.heap.size := World.block_lt_of_cell? W _ hc
  have HJ := Lib.hid hJ
  have HJx := Lib.hid hJx
  have HY := Lib.hid hY
  have H0 : Hid (valsRel recs J fp W (.int .i64 0) W) := ⟨[], fp, 0, rfl, by omega, by simp, h0, (Fwd.refl (fun k hk => (hfp k hk).1)).wider (fun k hk => .inl hk), fun k hk => .inl hk⟩
  have Hfp := Lib.hid hfp
  have Hc := Lib.hid hc
  have Hrd := Lib.hid hrd
  clear hJ hJx hY h0 hfp hc hrd
  refine callsIn_of_wp Try.func126 rfl trivial ?_
  simp only [Try.ntmps126, List.size_toArray, List.length_cons, List.length_nil, Nat.reduceAdd, Nat.reduceSub, Array.replicate_succ, Array.replicate_zero, List.push_toArray, List.append_toArray, List.nil_append, List.cons_append]
  have hc := Hc.out
  gi_wp2_with fail
  clear hc
  gi_loopw [7] (fun i wr => valsRel recs J fp W i wr) (fun i _ => recs.length - (intOf i).toNat)
  case atStart => exact H0.out
  case round =>
    obtain ⟨pre, fp1, k, rfl, hk, hpre, hj, hfw, hfo⟩ := hrel
    have hpl : pre.length = k := by
      have := congrArg List.length hpre
      simpa [Nat.min_eq_left hk] using this
    have hon : ∀ j, (j = b ∨ rfp j) → ¬ (fp j ∨ False) := fun j hj h => h.elim (fun h => (Hfp.out j h).2 hj) id
    have hrd := Hrd.out.only hfw.only (fun j hj _ => hon j (.inr hj))
    have Hj := Lib.hid hj
    have Hfw := Lib.hid hfw
    have Hfo := Lib.hid hfo
    have Hpre := Lib.hid hpre
    have Hpl := Lib.hid hpl
    clear hj hfw hfo hpre hpl hon
    by_cases hlt : k < recs.length
    · obtain ⟨bb, off, cs, rfl, _, hbb, ⟨ra, rc, rfl, hrc1, hrc2, hrr⟩, hcell⟩ := hrd.at k hlt
      have hce := hcell 0 Nat.one_pos
      simp only [Rep.slice, Nat.mul_one, Nat.add_zero, List.getElem?_cons_zero] at hce
      have hir : (k : Int) < (recs.length : Int) := by omega
      have hgk : recs[k]? = some recs[k] := List.getElem?_eq_getElem hlt
      have htk : recs.take (k + 1) = recs.take k ++ [recs[k]] := by rw [List.take_add_one, hgk]; rfl
      obtain ⟨r, hr⟩ : ∃ r, recs[k] = r := ⟨_, rfl⟩
      rw [hr] at hce hrr hrc1 hgk htk
      obtain ⟨fn, tmps, assign, body, hy, hR⟩ := HY.out pre fp1 (r, .slice ra r.length rc) wr Hj.out (fun k hk => (Hfw.out.own k hk).2) Hfw.out.only
        (by rw [List.map_append, Hpre.out]; show recs.take k ++ [r] <+: recs; rw [← htk]; exact List.take_prefix _ _)
        ⟨⟨ra, rc, rfl, hrc1, hrc2, hrr⟩, by rw [Hpl.out]; exact hgk⟩
      have HR := Lib.hid hR
      have Htk := Lib.hid htk
      have Hrr := Lib.hid hrr
      clear hR htk hrr hgk hr hcell hrd hrc1
      gi_wp2_with fail
      refine HR.out.mono ?_
      clear hy HR
      rintro e W2 ⟨fp2, hfw2, (⟨rfl, hj2⟩ | ⟨rfl, hjx2⟩)⟩
      · have Hj2 := Lib.hid hj2
        have Hfw2 := Lib.hid hfw2
        clear hj2 hfw2
        gi_wp2_with fail
        go_roundw
        case rel =>
          exact ⟨pre ++ [(r, .slice ra r.length rc)], fp2, k + 1, by go_num, by omega, by rw [List.map_append, Hpre.out, Htk.out]; rfl, Hj2.out, Hfw.out.trans Hfw2.out,
            fun k hk => ((Hfw2.out.own k hk).1).elim (Hfo.out k) (fun h => .inr (Nat.le_trans Hfw.out.only.size h))⟩
        case measure => simp [intOf]; omega
      · have Hjx2 := Lib.hid hjx2
        have Hfw2 := Lib.hid hfw2
        clear hjx2 hfw2
        gi_wp2_with fail
        refine bodyPost_ret (results_none rfl _ _ _) rfl ?_
        exact ⟨⟨_, rfl⟩, pre ++ [(r, .slice ra r.length rc)], fp2, Hfw.out.trans Hfw2.out, (fun k hk => ((Hfw2.out.own k hk).1).elim (Hfo.out k) (fun h => .inr (Nat.le_trans Hfw.out.only.size h))),
          .inr ⟨by rw [List.map_append, Hpre.out]; show recs.take k ++ [r] <+: recs; rw [← Htk.out]; exact List.take_prefix _ _, Hjx2.out⟩⟩
    · obtain rfl : k = recs.length := by omega
      clear hrd
      gi_wp2_with fail
      go_end0
      exact ⟨⟨_, rfl⟩, pre, fp1, Hfw.out, Hfo.out, .inl ⟨by rw [Hpre.out, List.take_length], Hj.out⟩⟩

set_option maxHeartbeats 400000 in
theorem vals_any (ao : Option Addr) (n cap : Nat) (w : World) :
    Calls Try.prog 96 #[.slice ao n cap] w fun e w' => e = .returned (.func (.func 126) #[] #[.pointer (some ⟨w.heap.size, 0, none⟩)]) ∧ w' = w.alloc (.cells #[.slice ao n cap] 108) := by
  have hmf : ∀ (fn : Fn) (first cap : Array Value) (w : World), (Instr.makeFunc fn first cap).run Try.prog w = .ok (.func fn first cap) w := fun _ _ _ _ => rfl
  go_enter Try.func96, Try.ntmps96
  go_wp2
  go_ret
  exact ⟨rfl, rfl⟩
end Go.Proofs.Ytlgnpogmgpgdaaa
