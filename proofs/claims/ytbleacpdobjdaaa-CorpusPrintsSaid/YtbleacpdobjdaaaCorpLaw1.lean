/- palmerlaw28: awake, CorpusRecs, CorpusPaths: the walks. -/
import Derived.Test.YtbleacpdobjdaaaCorpPrint
import Derived.Test.YtbleacpdobjdaaaTextPutsW
import Derived.Deep.RegionWith
namespace Go.Proofs.Ytbleacpdobjdaaa
set_option linter.unusedSimpArgs false
set_option linter.unusedVariables false
open Go.RowKit

theorem awake_paths : paths [key3 3 0 7, key3 3 1 9] = ([(3, [7, 9])], 0) := by decide
theorem awake_print : printP [(3, [7, 9])] = [51, 32, 55, 32, 57, 10] := by
  have h3 : digits 3 = [51] := by rw [digits, if_pos (by omega)]; rfl
  have h7 : digits 7 = [55] := by rw [digits, if_pos (by omega)]; rfl
  have h9 : digits 9 = [57] := by rw [digits, if_pos (by omega)]; rfl
  simp [printP, pathLine, vertsB, h3, h7, h9]

set_option maxRecDepth 100000 in
set_option maxHeartbeats 1600000 in
theorem awake28_any (w : World) : Calls Try.prog 27 #[] w fun e w' => e = .returned (.bool true) ∧ Below w.heap.size w w' := by
  have hR1 : ∀ W, Calls Try.prog 25 #[.int .u32 3, .int .u32 0, .int .u32 7] W (RetOwn 5 1 12 (byteVals (key3 3 0 7)) W) := rec_any 3 0 7 (by omega) (by omega) (by omega)
  have hR2 : ∀ W, Calls Try.prog 25 #[.int .u32 3, .int .u32 1, .int .u32 9] W (RetOwn 5 1 12 (byteVals (key3 3 1 9)) W) := rec_any 3 1 9 (by omega) (by omega) (by omega)
  have hPt : ∀ ao cap W, RdS (Rep.slice Rep.u8) (fun k => k < W.heap.size) W ao [key3 3 0 7, key3 3 1 9] → Calls Try.prog 28 #[.slice ao 2 cap] W (PathsRet ([(3, [7, 9])], 0) W) := fun ao cap W h => by
    have := paths_any [key3 3 0 7, key3 3 1 9] ao cap W (by simp) h
    rw [awake_paths] at this; exact this
  have hPr : ∀ ao cap W, RdS pathRep (fun k => k < W.heap.size) W ao [(3, [7, 9])] → Calls Try.prog 39 #[.slice ao 1 cap] W (RetOwn 5 1 6 (byteVals [51, 32, 55, 32, 57, 10]) W) := fun ao cap W h => by
    have := print28_any [(3, [7, 9])] ao cap W (by simp) (by simp) (by rw [awake_print]; simp) h
    rw [awake_print] at this; exact this
  have HR1 := Lib.hid hR1
  have HR2 := Lib.hid hR2
  have HPt := Lib.hid hPt
  have HPr := Lib.hid hPr
  clear hR1 hR2 hPt hPr
  go_enter Try.func27, Try.ntmps27
  go_wp2_with (first
    | (go_at_call 25; (with_reducible refine (HR1.out _).mono ?_); rintro e w1 ⟨a1, c1, g1, rfl, ho1, hg1, hB1⟩; have HO1 := Lib.hid ho1; have HB1 := Lib.hid hB1; have HG1 := Lib.hid hg1; clear ho1 hB1 hg1)
    | (go_at_call 25; (with_reducible refine (HR2.out _).mono ?_); rintro e w2 ⟨a2, c2, g2, rfl, ho2, hg2, hB2⟩; have HO2 := Lib.hid ho2; have HB2 := Lib.hid hB2; have HG2 := Lib.hid hg2; clear ho2 hB2 hg2; have hs1 := HB1.out.size; have hs2 := HB2.out.size; have h1 := (rdS_u8 (l := key3 3 0 7) HO1.out).ext HB2.out; have h2 := rdS_u8 (l := key3 3 1 9) HO2.out; have hX := RdS.new (R := Rep.slice Rep.u8) (fp := fun b => b < w2.heap.size) (w := w2) (l := [key3 3 0 7, key3 3 1 9]) (css := [[.slice a1 12 c1], [.slice a2 12 c2]]) (cs := #[.slice a1 12 c1, .slice a2 12 c2]) (t := 34) (.cons ⟨a1, c1, rfl, HO1.out.capLe.1, HO1.out.capLe.2, h1.mono (fun b _ h => h)⟩ (.cons ⟨a2, c2, rfl, HO2.out.capLe.1, HO2.out.capLe.2, h2.mono (fun b _ h => h)⟩ .nil)) rfl w2.heap.size rfl; have HX := Lib.hid hX; clear h1 h2 hX)
    | (go_at_call 28; refine (HPt.out _ _ _ (HX.out.mono (fun b _ h => h))).mono ?_; rintro e w3 ⟨a3, c3, rfl, h3, h4, hrd3, hB3⟩; have Hrd3 := Lib.hid hrd3; have HB3 := Lib.hid hB3; clear hrd3 hB3 h3 h4)
    | (go_at_call 39; refine (HPr.out _ _ _ (Hrd3.out.mono (fun b _ h => h))).mono ?_; rintro e w4 ⟨a4, c4, g4, rfl, ho4, hg4, hB4⟩; have hcv := run_string_own (P := Try.prog) (src := 34) (dst := 9) (W := [51, 32, 55, 32, 57, 10]) Try.underlying34 Try.underlying5 Try.underlying9 ho4; simp only [List.length_cons, List.length_nil] at hcv; have HB4 := Lib.hid hB4; clear ho4 hg4 hB4))
  go_ret
  have hA := HB1.out.trans (HB2.out.mono hs1)
  have hB := (hA.alloc (by omega) (.cells #[.slice a1 12 c1, .slice a2 12 c2] 34)).trans (HB3.out.mono (by simp; omega))
  exact ⟨rfl, hB.trans (HB4.out.mono hB.size)⟩

set_option maxRecDepth 100000 in
set_option maxHeartbeats 1600000 in
theorem corpusRecs_walk (id step v more : Nat) (h1 : id < 4294967296) (h2 : step < 4294967296) (h3 : v < 4294967296) (h4 : more < 4294967296) (w : World) :
    Calls Try.prog 9 #[.int .u32 id, .int .u32 step, .int .u32 v, .int .u32 more] w fun e w' => e = .returned (.bool true) ∧ Below w.heap.size w w' := by
  have hX := rec_any id step v h1 h2 h3
  have hY : ∀ W, Calls Try.prog 25 #[.int .u32 id, .int .u32 more, .int .u32 0] W (RetOwn 5 1 12 (byteVals (key3 id more 0)) W) := rec_any id more 0 h1 h4 (by omega)
  have hZ : ∀ W, Calls Try.prog 25 #[.int .u32 more, .int .u32 0, .int .u32 0] W (RetOwn 5 1 12 (byteVals (key3 more 0 0)) W) := rec_any more 0 0 h4 (by omega) (by omega)
  have hR := rrec_any id step v h1 h2 h3
  have hs : ((step : Int) == more) = true ∨ (((step : Int) == more) = false ∧ (Op.bytesLess (key3 id step v) (key3 id more 0) == decide (step < more)) = true) := by
    by_cases e : step = more
    · exact .inl (by simp [e])
    · refine .inr ⟨by simp; omega, ?_⟩
      rw [bytesLess_dec, beq_iff_eq, decide_eq_decide, key3_lt _ _ _ _ _ _ h1 h2 h3 h1 h4 (by omega)]
      omega
  have hi : ((id : Int) == more) = true ∨ (((id : Int) == more) = false ∧ (Op.bytesLess (key3 id step v) (key3 more 0 0) == decide (id < more)) = true) := by
    by_cases e : id = more
    · exact .inl (by simp [e])
    · refine .inr ⟨by simp; omega, ?_⟩
      rw [bytesLess_dec, beq_iff_eq, decide_eq_decide, key3_lt _ _ _ _ _ _ h1 h2 h3 h4 (by omega) (by omega)]
      omega
  have Hs := Lib.hid hs
  have Hi := Lib.hid hi
  clear hs hi
  have HX := Lib.hid hX
  have HY := Lib.hid hY
  have HZ := Lib.hid hZ
  have HR := Lib.hid hR
  clear hX hY hZ hR
  have cv : ∀ (l : List UInt8) (W : World) (ao : Option Addr) (cap : Nat) (g : Option Nat), l.length = 12 → Own W ao cap g 5 1 12 (byteVals l) → (convert 34 9 (.slice ao 12 cap)).run Try.prog W = .ok (.string (bs l)) W := fun l W ao cap g hl ho => by
    have := run_string_own (P := Try.prog) (src := 34) (dst := 9) (W := l) Try.underlying34 Try.underlying5 Try.underlying9 (ao := ao) (cap := cap) (g := g) (w := W) (by rw [hl]; exact ho)
    rw [hl] at this; exact this
  have CV := Lib.hid cv
  clear cv
  go_enter Try.func9, Try.ntmps9
  go_wp2_with fail
  go_region_with (first
      | (go_at_call 25; (with_reducible refine (HX.out _).mono ?_); rintro e wa ⟨aa, ca, ga, rfl, hoa, hga, hBa⟩; have ea := CV.out (key3 id step v) wa aa ca ga rfl hoa; have HOa := Lib.hid hoa; have HBa := Lib.hid hBa; clear hoa hga hBa)
      | (go_at_call 25; (with_reducible refine (HY.out _).mono ?_); rintro e wb ⟨ab, cb, gb, rfl, hob, hgb, hBb⟩; have eb := CV.out (key3 id more 0) wb ab cb gb rfl hob; have ea' := CV.out (key3 id step v) wb aa ca ga rfl (HOa.out.ext hBb); have HOb := Lib.hid hob; have HBb := Lib.hid hBb; clear hob hgb hBb))
  all_goals
    have hs := Hs.out
    have hi := Hi.out
    clear Hs Hi
    rcases hs with hs | ⟨hs, hs'⟩ <;> rcases hi with hi | ⟨hi, hi'⟩
  all_goals
    go_wp2_with (first
      | (go_at_call 25; (with_reducible refine (HZ.out _).mono ?_); rintro e wc ⟨ac, cc, gc, rfl, hoc, hgc, hBc⟩; have ec := CV.out (key3 more 0 0) wc ac cc gc rfl hoc; have HBc := Lib.hid hBc; clear hoc hgc hBc)
      | (go_at_call 26; (with_reducible refine (HR.out _).mono ?_); rintro e wd ⟨ad, cd, gd, rfl, hod, hgd, hBd⟩; have ed := CV.out (key3 id step v) wd ad cd gd rfl hod; have HBd := Lib.hid hBd; clear hod hgd hBd)
      | (go_at_call 27; refine (awake28_any _).mono ?_; rintro e we ⟨rfl, hBe⟩))
    go_ret
    exact ⟨rfl, ext_trans (ext_trans (ext_trans (ext_trans (ext_trans (ext_drew w) HBa.out) HBb.out) HBc.out) HBd.out) hBe⟩

def stLen : Option PathD → Nat
  | none => 0
  | some p => p.2.length
theorem told_rows : ∀ (recs : List (List UInt8)) (st : Option PathD), ∀ p ∈ (told st recs).1, p.2.length ≤ recs.length + stLen st
  | [], st, p, hp => by
    cases st with
    | none => simp [told, flushP] at hp
    | some q => simp [told, flushP] at hp; subst hp; simp [stLen]
  | r :: rs, st, p, hp => by
    unfold told at hp
    split at hp
    · simp at hp
    · split at hp
      · have := told_rows rs _ p hp
        cases st <;> simp [addTo, stLen] at this ⊢ <;> omega
      · split at hp
        · rcases List.mem_append.1 hp with h | h
          · cases st with
            | none => simp [flushP] at h
            | some q => simp [flushP] at h; subst h; simp [stLen]
          · have := told_rows rs _ p h
            simp [stLen] at this ⊢; omega
        · simp at hp
theorem paths_len (recs : List (List UInt8)) : (paths recs).1.length ≤ recs.length := by
  rw [paths_told]
  split
  · have := told_len recs none; simpa [flushP] using this
  · simp
theorem paths_rows (recs : List (List UInt8)) : ∀ p ∈ (paths recs).1, p.2.length ≤ recs.length := by
  intro p hp
  rw [paths_told] at hp
  split at hp
  · have := told_rows recs none p hp; simpa [stLen] using this
  · simp at hp

def overI (n B : Nat) (P : Nat → Prop) (w : World) (i : Value) (wr : World) : Prop := ∃ k : Nat, k ≤ n ∧ i = .int .i64 (k : Nat) ∧ (∀ j, j < k → P j) ∧ wr = w

set_option maxRecDepth 100000 in
set_option maxHeartbeats 1600000 in
theorem corpusPaths_walk (recs : List (List UInt8)) (ao : Option Addr) (cap : Nat) (w : World) (hrd : RdS (Rep.slice Rep.u8) (fun k => k < w.heap.size) w ao recs) :
    Calls Try.prog 10 #[.slice ao recs.length cap] w fun e w' => e = .returned (.bool true) ∧ Below w.heap.size w w' := by
  have Hrd := Lib.hid hrd
  clear hrd
  by_cases hl : 200 < recs.length
  · have hd : decide ((200 : Int) < recs.length) = true := by simp; omega
    go_enter Try.func10, Try.ntmps10
    go_wp2_with (go_at_call 27; refine (awake28_any _).mono ?_; rintro e w1 ⟨rfl, hB1⟩)
    go_ret
    exact ⟨rfl, hB1⟩
  · have hd : decide ((200 : Int) < recs.length) = false := by simp; omega
    go_enter Try.func10, Try.ntmps10
    go_wp2_with fail
    go_loopw [3] (fun i wr => overI recs.length 0 (fun j => ∀ r, recs[j]? = some r → r.length ≤ 100) w i wr) (fun i _ => recs.length - (intOf i).toNat)
    case atStart => exact ⟨0, by omega, rfl, fun j hj => by omega, rfl⟩
    case round =>
      obtain ⟨k, hk, rfl, hall, rfl⟩ := hrel
      have Hall := Lib.hid hall
      clear hall
      by_cases hlt : k < recs.length
      · obtain ⟨bb, off, cs, rfl, _, hbb, ⟨ra, rc, rfl, hrc1, hrc2, hrr⟩, hcell⟩ := Hrd.out.at k hlt
        have hce := hcell 0 Nat.one_pos
        simp only [Rep.slice, Nat.mul_one, Nat.add_zero, List.getElem?_cons_zero] at hce
        have hir : (k : Int) < (recs.length : Int) := by omega
        have hgk : recs[k]? = some recs[k] := List.getElem?_eq_getElem hlt
        obtain ⟨r, hr⟩ : ∃ r, recs[k] = r := ⟨_, rfl⟩
        rw [hr] at hce hrc1 hgk
        have Hgk := Lib.hid hgk
        clear hcell hrr hgk hr
        by_cases hbig : 100 < r.length
        · have hd2 : decide ((100 : Int) < r.length) = true := by simp; omega
          go_wp2_with (go_at_call 27; refine (awake28_any _).mono ?_; rintro e w1 ⟨rfl, hB1⟩)
          go_ret
          exact ⟨rfl, hB1⟩
        · have hd2 : decide ((100 : Int) < r.length) = false := by simp; omega
          go_wp2_with fail
          go_roundw
          case rel =>
            refine ⟨k + 1, by omega, by go_num, fun j hj r' hr' => ?_, rfl⟩
            by_cases hjk : j < k
            · exact Hall.out j hjk r' hr'
            · obtain rfl : j = k := by omega
              rw [Hgk.out] at hr'
              cases hr'
              omega
          case measure => simp [intOf]; omega
      · obtain rfl : k = recs.length := by omega
        have hPt := fun W h => paths_any recs ao cap W (by omega) h
        have hRt := fun W h => rpaths_any recs ao cap W (by omega) h
        have hlen : (paths recs).1.length ≤ 1073741824 := by have := paths_len recs; omega
        have hrows : ∀ p ∈ (paths recs).1, p.2.length ≤ 1073741824 := fun p hp => by have := paths_rows recs p hp; omega
        have he : (paths recs).2 < 20 := by rw [paths_told]; split <;> rcases told_err recs none with h | h | h <;> simp [h]
        obtain ⟨⟨l, er⟩, hp⟩ : ∃ r, paths recs = r := ⟨_, rfl⟩
        rw [hp] at hPt hRt hlen hrows he
        simp only at hlen hrows he
        have hee : ((er : Int) == er) = true := by simp
        have HPt := Lib.hid hPt
        have HRt := Lib.hid hRt
        have Hrows := Lib.hid hrows
        clear hPt hRt hrows hp
        go_wp2_with (first
          | (go_at_call 28; refine (HPt.out _ Hrd.out).mono ?_; rintro e w1 ⟨a1, c1, rfl, h1, h2, hr1, hB1⟩; have Hr1 := Lib.hid hr1; have HB1 := Lib.hid hB1; clear h1 h2 hr1 hB1)
          | (go_at_call 29; refine (HRt.out _ ((Hrd.out.ext HB1.out).mono (fun b hb _ => Nat.lt_of_lt_of_le hb HB1.out.size))).mono ?_; rintro e w2 ⟨a2, c2, rfl, h1, h2, hr2, hB2⟩; have Hr2 := Lib.hid hr2; have HB2 := Lib.hid hB2; clear h1 h2 hr2 hB2)
          | (go_at_call 30; refine (same28_any l a1 a2 c1 c2 _ _ _ hlen Hrows.out (Hr1.out.ext HB2.out) Hr2.out).mono ?_; rintro e w3 ⟨rfl, hB3⟩; have HB3 := Lib.hid hB3; clear hB3)
          | (go_at_call 27; refine (awake28_any _).mono ?_; rintro e w4 ⟨rfl, hB4⟩))
        go_ret
        exact ⟨rfl, ext_trans (ext_trans (ext_trans HB1.out HB2.out) HB3.out) hB4⟩
end Go.Proofs.Ytbleacpdobjdaaa
