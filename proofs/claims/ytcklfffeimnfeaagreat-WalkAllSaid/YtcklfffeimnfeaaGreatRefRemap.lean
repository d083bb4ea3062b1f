/- palmerref16.To, palmerref17.Alias, .Interval. -/
import Derived.Test.YtcklfffeimnfeaaGreatRefPickW
import Derived.Test.YtcklfffeimnfeaaGreatRefBelowT
import Derived.Test.YtcklfffeimnfeaaGreatBx19
import Derived.Test.YtcklfffeimnfeaaGreatBx14
set_option maxRecDepth 100000
set_option maxHeartbeats 12800000
set_option linter.unusedSimpArgs false
set_option linter.unusedVariables false
namespace Go.Proofs.YtcklfffeimnfeaaGreat
open Go.RowKit

theorem takeA_run (ao : Option Addr) (len cap k : Nat) (hk : k ≤ cap) (W : World) : (Instr.sliceAt 49 (.slice ao len cap) none (some (.int .i64 (k : Nat))) none).run Tryz.prog W = .ok (.slice ao k cap) W := by
  have hu : Tryz.prog.underlying 49 = some (.slice (Tryz.prog.elem 49)) := by kernel_rfl
  rw [run_sliceAt_slice W 49 _ _ _ _ hu, run_slice_h W 49 ao len cap hu .i64 (k : Int) (by omega) (by omega)]
  have hs : (sizeOf (Tryz.prog.elem 49)).run Tryz.prog W = .ok 2 W := by kernel_rfl
  rw [hs]
  cases ao <;> simp [sliced, Result.andThen] <;> exact fun _ => rfl
theorem rto_any (t : List CellD) (s x : Nat) (hs0 : 0 < s) (hs1 : s < 18446744073709551616) (hx : x < 18446744073709551616) (hq : x / s < t.length) (bo : Option Addr) (cb : Nat) (fq : Nat → Prop) (w : World) (htl : t.length ≤ 100000) (hrt : RdS cellRep fq w bo t) :
    Calls Tryz.prog 148 #[.slice bo t.length cb, .int .u64 (s : Nat), .int .u64 (x : Nat)] w (RetB (.int .i64 (toT t s x : Nat)) w) := by
  have hg : t[x / s]? = some t[x / s] := List.getElem?_eq_getElem hq
  have hav := toT_getD hg
  obtain ⟨b, off, rfl, hb, hc0, hc1, hok⟩ := hrt.cel _ hq
  obtain ⟨c, hc⟩ : ∃ c, t[x / s]'hq = c := ⟨_, rfl⟩
  rw [hc] at hc0 hc1 hok hav
  clear hc hg
  obtain ⟨c0, c1⟩ := c
  simp only at hc0 hc1 hav
  have hok1 : c0 < 18446744073709551616 := hok.1
  have hok2 : c1 < 4294967296 := hok.2
  have e1 : Int.tdiv (x : Int) (s : Int) = ((x / s : Nat) : Int) := rfl
  have e2 : (x : Int) / (s : Int) = ((x / s : Nat) : Int) := rfl
  have e3 : Int.tmod (x : Int) (s : Int) = ((x % s : Nat) : Int) := rfl
  have e4 : (x : Int) % (s : Int) = ((x % s : Nat) : Int) := rfl
  have hr : x % s < s := Nat.mod_lt _ hs0
  clear hrt hok
  rw [hav]
  clear hav
  generalize x / s = q at *
  generalize x % s = r at *
  have hqi : (q : Int) < (t.length : Int) := by omega
  have hq5 : q ≤ 100000 := by omega
  have hs2 : (1 : Int) ≤ (s : Int) := by omega
  have w1 : IntKind.u64.wrap (q : Int) = (q : Int) := IntWalk.u64_in _ (by omega)
  have w2 : IntKind.u64.wrap (r : Int) = (r : Int) := IntWalk.u64_in _ (by omega)
  have w3 : IntKind.i64.wrap (q : Int) = (q : Int) := IntWalk.i64_in _ (by omega)
  have w4 : IntKind.i64.wrap (c1 : Int) = (c1 : Int) := IntWalk.i64_in _ (by omega)
  by_cases hrc : r < c0
  · have g1 : decide (r < c0) = true := decide_eq_true hrc
    have g1' : decide ((r : Int) < (c0 : Int)) = true := decide_eq_true (by omega)
    rw [if_pos hrc]
    clear hrc
    go_enter Tryz.func148, Tryz.ntmps148
    go_wp2_with fail
    go_quiet (fail)
    go_wp2_with fail
    go_ret
    refine ⟨rfl, below_drewN (ext_alloc _ _) _⟩
  · have g1 : decide (r < c0) = false := decide_eq_false hrc
    have g1' : decide ((r : Int) < (c0 : Int)) = false := decide_eq_false (by omega)
    rw [if_neg hrc]
    clear hrc
    go_enter Tryz.func148, Tryz.ntmps148
    go_wp2_with fail
    go_quiet (fail)
    go_wp2_with fail
    go_ret
    refine ⟨rfl, below_drewN (ext_alloc _ _) _⟩
theorem ralias_any (l : List ArcD) (t : List CellD) (x : Nat) (ao bo : Option Addr) (ca cb : Nat) (fp fq : Nat → Prop) (w : World) (hl : l.length ≤ 1000) (hne : l ≠ []) (hm : mayA l = true) (hT : RightT (l.map (·.2)) t) (hx : x < totalM l) (hrd : RdS arcRep fp w ao l) (hrt : RdS cellRep fq w bo t) :
    Calls Tryz.prog 119 #[.slice ao l.length ca, .slice bo t.length cb, .int .u64 (x : Nat)] w (RetB (.tuple #[.int .i64 (toT t (sumA l) x : Nat), .bool true]) w) := by
  obtain ⟨htot, hsum, hlen⟩ := totalM_pos hm hne
  have htl : t.length = l.length := by rw [hT.1, List.length_map]
  have hle := totalM_le (l := l) (by omega)
  have hs := (of_decide_eq_true hm).2.2
  have hq : x / sumA l < t.length := by rw [htl, Nat.div_lt_iff_lt_mul hsum, Nat.mul_comm, ← htot]; exact hx
  have htv : toT t (sumA l) x < l.length := by
    have h := toT_lt hT (x := x) (by rw [List.length_map, Nat.mul_comm]; exact htot ▸ hx)
    rw [List.length_map] at h
    exact h
  have HT := Lib.hid (fun W (h : Below w.heap.size w W) => rtotal_any l ao ca fp W (by omega) hne hm (hrd.ext h))
  have HS := Lib.hid (fun W (h : Below w.heap.size w W) => rsum_any l ao ca fp W (by omega) (hrd.ext h))
  have HO := Lib.hid (fun W (h : Below w.heap.size w W) => rto_any t (sumA l) x hsum (by omega) (by omega) hq bo cb fq W (by omega) (hrt.ext h))
  have d1 : (l.length != l.length) = false := bne_eq_false_iff_eq.2 rfl
  have d1' : ((l.length : Int) != (l.length : Int)) = false := bne_eq_false_iff_eq.2 rfl
  have d2 : decide (totalM l ≤ x) = false := decide_eq_false (by omega)
  have d2' : decide ((totalM l : Int) ≤ (x : Int)) = false := decide_eq_false (by omega)
  have d3 : decide (l.length ≤ toT t (sumA l) x) = false := decide_eq_false (by omega)
  have d3' : decide ((l.length : Int) ≤ (toT t (sumA l) x : Int)) = false := decide_eq_false (by omega)
  rw [htl] at HO ⊢
  clear hrd hrt htot hsum hle hs hq htv hx hT hm hne htl
  generalize toT t (sumA l) x = tv at *
  generalize totalM l = tot at *
  generalize sumA l = s at *
  go_enter Tryz.func119, Tryz.ntmps119
  go_wp2_with (first
    | (go_at_call 75; (with_reducible refine (HT.out _ (Below.refl _ _)).mono ?_); rintro e w1 ⟨rfl, hB⟩; have B1 := Lib.hid hB; clear hB)
    | (go_at_call 56; (with_reducible refine (HS.out _ B1.out).mono ?_); rintro e w2 ⟨rfl, hB⟩; have B2 := Lib.hid (B1.out.trans (hB.mono B1.out.size)); clear hB)
    | (go_at_call 148; (with_reducible refine (HO.out _ B2.out).mono ?_); rintro e w3 ⟨rfl, hB⟩; have B3 := Lib.hid (B2.out.trans (hB.mono B2.out.size)); clear hB))
  go_ret2
  exact ⟨rfl, B3.out⟩
/-! ### Interval -/
theorem sum_takeA (l : List ArcD) (k : Nat) : sumA (l.take k) = ((l.map (·.2)).take k).sum := by unfold sumA; rw [List.map_take]
theorem interval_hit {W : List Nat} {y k : Nat} (hk : k < W.length) (h1 : ∀ i, i < k → ¬ y < frontT W (i + 1)) (h2 : y < frontT W (k + 1)) : intervalT W y = k := by
  unfold intervalT
  have : (List.range W.length).findIdx? (fun i => decide (y < frontT W (i + 1))) = some k := by
    rw [List.findIdx?_eq_some_iff_getElem]
    refine ⟨by simpa using hk, by simpa using h2, fun j hj => ?_⟩
    simp
    have := h1 j hj
    omega
  rw [this]; rfl
theorem sumA_take_le (l : List ArcD) (k : Nat) : sumA (l.take k) ≤ sumA l := by
  rw [sum_takeA]
  have h2 := List.take_append_drop k (l.map (·.2))
  have h3 : (l.map (·.2)).sum = ((l.map (·.2)).take k).sum + ((l.map (·.2)).drop k).sum := by rw [← List.sum_append, h2]
  unfold sumA
  omega
def rivI (l : List ArcD) (y : Nat) (w : World) (i : Value) (wr : World) : Prop := ∃ k : Nat, k ≤ l.length ∧ i = .int .i64 (k : Nat) ∧ (∀ i, i < k → ¬ y < frontT (l.map (·.2)) (i + 1)) ∧ Below w.heap.size w wr
theorem rinterval_any (l : List ArcD) (y : Nat) (ao : Option Addr) (cap : Nat) (fp : Nat → Prop) (w : World) (hl : l.length ≤ 1000) (hs : sumA l ≤ 2147483647) (hy : y < l.length * sumA l) (hcap : l.length ≤ cap) (hrd : RdS arcRep fp w ao l) :
    Calls Tryz.prog 76 #[.slice ao l.length cap, .int .u64 (y : Nat)] w (RetB (.int .i64 (intervalT (l.map (·.2)) y : Nat)) w) := by
  have Hrd := Lib.hid hrd
  have HSm := Lib.hid (fun k (hk : k + 1 ≤ l.length) W (h : Below w.heap.size w W) => (show Calls Tryz.prog 56 #[.slice ao (k + 1) cap] W (RetB (.int .u64 (sumA (l.take (k + 1)) : Nat)) W) from by
    have h1 := rsum_any (l.take (k + 1)) ao cap fp W (by rw [List.length_take]; omega) ((hrd.ext h).take (k + 1))
    rw [List.length_take, Nat.min_eq_left hk] at h1
    exact h1))
  have Hfs := Lib.hid (fun k => (show l.length * sumA (l.take k) = frontT (l.map (·.2)) k by unfold frontT; rw [List.length_map, sum_takeA]))
  have Hlast := Lib.hid (show l.length * sumA l = frontT (l.map (·.2)) l.length by unfold frontT; rw [List.length_map, ← List.length_map (f := fun x : ArcD => x.2), List.take_length]; rfl)
  have hsm : ∀ k, sumA (l.take k) ≤ 2147483647 := fun k => Nat.le_trans (sumA_take_le l k) hs
  clear hrd
  go_enter Tryz.func76, Tryz.ntmps76
  go_wp2_with fail
  go_loopw [8] (fun i wr => rivI l y w i wr) (fun i _ => l.length - (intOf i).toNat)
  case atStart => exact ⟨0, by omega, rfl, fun i h => by omega, Below.refl _ _⟩
  case round =>
    obtain ⟨k, hk, rfl, hno, hB⟩ := hrel
    rename World => wo
    by_cases hlt : k < l.length
    · have hsl := fun W => takeA_run ao l.length cap (k + 1) (by omega) W
      have Hsk := Lib.hid (HSm.out k (by omega))
      have hf := Hfs.out (k + 1)
      have hsk := hsm (k + 1)
      have hmul : IntKind.u64.wrap ((l.length : Int) * (sumA (l.take (k + 1)) : Int)) = ((frontT (l.map (·.2)) (k + 1) : Nat) : Int) := by
        rw [← hf]
        have h1 : l.length * sumA (l.take (k + 1)) ≤ 1000 * 2147483647 := Nat.mul_le_mul hl hsk
        rw [show (l.length : Int) * (sumA (l.take (k + 1)) : Int) = ((l.length * sumA (l.take (k + 1)) : Nat) : Int) from by simp]
        exact IntWalk.u64_in _ (by omega)
      have hlw : IntKind.u64.wrap (l.length : Int) = (l.length : Int) := IntWalk.u64_in _ (by omega)
      have hir : (k : Int) < (l.length : Int) := by omega
      have B := Lib.hid hB
      have Hno := Lib.hid hno
      have Hit := Lib.hid (fun h2 => interval_hit (W := l.map (·.2)) (y := y) (by rw [List.length_map]; exact hlt) hno h2)
      clear hf hsk hB hno
      generalize sumA (l.take (k + 1)) = sk at *
      obtain ⟨f, hf⟩ : ∃ f, frontT (l.map (·.2)) (k + 1) = f := ⟨_, rfl⟩
      rw [hf] at hmul Hit
      have Hf := Lib.hid hf
      clear hf
      by_cases h : y < f
      · have d : decide ((y : Int) < (f : Int)) = true := decide_eq_true (by omega)
        have d' : decide (y < f) = true := decide_eq_true h
        have Hv := Lib.hid (Hit.out h)
        clear Hit h
        go_wp2_with (go_at_call 56; (with_reducible refine (Hsk.out _ B.out).mono ?_); rintro e w3 ⟨rfl, hB⟩; have B3 := Lib.hid (B.out.trans (hB.mono B.out.size)); clear hB)
        go_ret
        exact ⟨by rw [Hv.out]; rfl, B3.out⟩
      · have d : decide ((y : Int) < (f : Int)) = false := decide_eq_false (by omega)
        have d' : decide (y < f) = false := decide_eq_false h
        have Hnf := Lib.hid h
        clear Hit h
        go_wp2_with (go_at_call 56; (with_reducible refine (Hsk.out _ B.out).mono ?_); rintro e w3 ⟨rfl, hB⟩; have B3 := Lib.hid (B.out.trans (hB.mono B.out.size)); clear hB)
        exact ⟨⟨k + 1, by omega, by go_num, fun i hi => by
          by_cases e : i = k
          · subst e; rw [Hf.out]; exact Hnf.out
          · exact Hno.out i (by omega), B3.out⟩, by simp [intOf]; omega⟩
    · obtain rfl : k = l.length := by omega
      exfalso
      have h0 : 0 < l.length := Nat.pos_of_ne_zero (fun e => by rw [e] at hy; simp at hy)
      have := hno (l.length - 1) (by omega)
      rw [Nat.sub_add_cancel h0, ← Hlast.out] at this
      exact this hy
end Go.Proofs.YtcklfffeimnfeaaGreat
