/- palmerlaw14: awake, MergeRows: the walks. -/
import Derived.Test.YtafbjkbdfdeacaaMergeSameW
namespace Go.Proofs.Ytafbjkbdfdeacaa
set_option linter.unusedSimpArgs false
set_option linter.unusedVariables false
open Go.RowKit

theorem awake_rows : rowsOf [key3 1 2 3, key3 1 2 4] = ([(1, [(2, 7)])], 0) := by decide

set_option maxRecDepth 100000 in
set_option maxHeartbeats 1600000 in
theorem awake14_any (w : World) : Calls Try.prog 14 #[] w fun e w' => e = .returned (.bool true) ∧ Below w.heap.size w w' := by
  have hR1 : ∀ W, Calls Try.prog 15 #[.agg #[.int .u32 1, .int .u32 2, .int .u32 3]] W (RetOwn 5 1 12 (byteVals (key3 1 2 3)) W) := mkey_any 1 2 3 (by omega) (by omega) (by omega)
  have hR2 : ∀ W, Calls Try.prog 15 #[.agg #[.int .u32 1, .int .u32 2, .int .u32 4]] W (RetOwn 5 1 12 (byteVals (key3 1 2 4)) W) := mkey_any 1 2 4 (by omega) (by omega) (by omega)
  have hPt : ∀ ao cap W, RdS (Rep.slice Rep.u8) (fun k => k < W.heap.size) W ao [key3 1 2 3, key3 1 2 4] → Calls Try.prog 20 #[.slice ao 2 cap] W (RowsRet ([(1, [(2, 7)])], 0) W) := fun ao cap W h => by
    have := rows_any [key3 1 2 3, key3 1 2 4] ao cap W (by simp) h
    rw [awake_rows] at this; exact this
  have HR1 := Lib.hid hR1
  have HR2 := Lib.hid hR2
  have HPt := Lib.hid hPt
  clear hR1 hR2 hPt
  go_enter Try.func14, Try.ntmps14
  go_wp2_with (first
    | (go_at_call 15; (with_reducible refine (HR1.out _).mono ?_); rintro e w1 ⟨a1, c1, g1, rfl, ho1, hg1, hB1⟩; have HO1 := Lib.hid ho1; have HB1 := Lib.hid hB1; have HG1 := Lib.hid hg1; clear ho1 hB1 hg1)
    | (go_at_call 15; (with_reducible refine (HR2.out _).mono ?_); rintro e w2 ⟨a2, c2, g2, rfl, ho2, hg2, hB2⟩; have HO2 := Lib.hid ho2; have HB2 := Lib.hid hB2; have HG2 := Lib.hid hg2; clear ho2 hB2 hg2; have hs1 := HB1.out.size; have hs2 := HB2.out.size; have h1 := (rdS_u8 (l := key3 1 2 3) HO1.out).ext HB2.out; have h2 := rdS_u8 (l := key3 1 2 4) HO2.out; have hX := RdS.new (R := Rep.slice Rep.u8) (fp := fun b => b < w2.heap.size) (w := w2) (l := [key3 1 2 3, key3 1 2 4]) (css := [[.slice a1 12 c1], [.slice a2 12 c2]]) (cs := #[.slice a1 12 c1, .slice a2 12 c2]) (t := 25) (All2.cons ⟨a1, c1, rfl, HO1.out.capLe.1, HO1.out.capLe.2, h1.mono (fun _ _ h => h)⟩ (All2.cons ⟨a2, c2, rfl, HO2.out.capLe.1, HO2.out.capLe.2, h2.mono (fun _ _ h => h)⟩ All2.nil)) rfl w2.heap.size rfl; have HX := Lib.hid hX; clear hX h1 h2)
    | (go_at_call 20; refine (HPt.out _ _ _ (HX.out.mono (fun b hb _ => by simp; omega))).mono ?_; rintro e w3 ⟨a3, c3, rfl, h3, h4, hrd3, hB3⟩; obtain ⟨rb, ro, ra, rc, rfl, hrb, r0, r1, _, _, _, hra⟩ := hrd3.row 0 (by simp); obtain ⟨qb, qo, rfl, hqb, q0, q1, _⟩ := hra.arc 0 (by simp); simp only [List.getElem_cons_zero, Nat.zero_mul, Nat.add_zero, List.length_cons, List.length_nil] at r0 r1 q0 q1; have HB3 := Lib.hid hB3; clear hrd3 hB3 h3 h4 hra))
  go_ret
  have hA := HB1.out.trans (HB2.out.mono hs1)
  exact ⟨rfl, (hA.alloc (by omega) (.cells #[.slice a1 12 c1, .slice a2 12 c2] 25)).trans (HB3.out.mono (by simp; omega))⟩

def overI (n B : Nat) (P : Nat → Prop) (w : World) (i : Value) (wr : World) : Prop := ∃ k : Nat, k ≤ n ∧ i = .int .i64 (k : Nat) ∧ (∀ j, j < k → P j) ∧ wr = w
theorem mtold_err : ∀ (ks : List (List UInt8)) (row : RowD) (last : List UInt8), (mtold row last ks).2 < 20
  | [], _, _ => by simp [mtold]
  | k :: ks, row, last => by
    unfold mtold
    split
    · unfold mayErr; simp only; split <;> (try split) <;> (try split) <;> omega
    · exact mtold_err ks _ _
theorem mtold_arcs : ∀ (ks : List (List UInt8)) (row : RowD) (last : List UInt8), ∀ r ∈ (mtold row last ks).1, r.2.length ≤ row.2.length + ks.length
  | [], row, last, r, hr => by
    unfold mtold at hr
    simp only at hr
    split at hr
    · rw [List.mem_singleton.1 hr]; simp
    · simp at hr
  | k :: ks, row, last, r, hr => by
    unfold mtold at hr
    split at hr
    · simp at hr
    · have h1 := (takeM_len row (keyE k)).1
      rcases List.mem_append.1 hr with h | h
      · split at h
        · rw [List.mem_singleton.1 h]; simp
        · simp at h
      · have := mtold_arcs ks _ _ r h
        simp only [List.length_cons]; omega
theorem rowsOf_len (ks : List (List UInt8)) : (rowsOf ks).1.length ≤ ks.length + 1 := by
  unfold rowsOf
  split
  · exact mtold_len ks _ _
  · simp
theorem rowsOf_arcs (ks : List (List UInt8)) : ∀ r ∈ (rowsOf ks).1, r.2.length ≤ ks.length := by
  intro r hr
  unfold rowsOf at hr
  split at hr
  · have := mtold_arcs ks _ _ r hr; simpa using this
  · simp at hr
theorem rowsOf_err (ks : List (List UInt8)) : (rowsOf ks).2 < 20 := by
  unfold rowsOf
  split
  · simp
  · exact mtold_err ks _ _

set_option maxRecDepth 100000 in
set_option maxHeartbeats 1600000 in
theorem mergeRows_walk (recs : List (List UInt8)) (ao : Option Addr) (cap : Nat) (w : World) (hrd : RdS (Rep.slice Rep.u8) (fun k => k < w.heap.size) w ao recs) :
    Calls Try.prog 4 #[.slice ao recs.length cap] w fun e w' => e = .returned (.bool true) ∧ Below w.heap.size w w' := by
  have Hrd := Lib.hid hrd
  clear hrd
  by_cases hl : 200 < recs.length
  · have hd : decide ((200 : Int) < recs.length) = true := by simp; omega
    go_enter Try.func4, Try.ntmps4
    go_wp2_with (go_at_call 14; refine (awake14_any _).mono ?_; rintro e w1 ⟨rfl, hB1⟩)
    go_ret
    exact ⟨rfl, hB1⟩
  · have hd : decide ((200 : Int) < recs.length) = false := by simp; omega
    go_enter Try.func4, Try.ntmps4
    go_wp2_with fail
    go_loopw [3] (fun i wr => overI recs.length 0 (fun j => ∀ r, recs[j]? = some r → r.length ≤ 100) w i wr) (fun i _ => recs.length - (intOf i).toNat)
    case atStart => exact ⟨0, by omega, rfl, fun j hj => by omega, rfl⟩
    case round =>
      obtain ⟨k, hk, rfl, hall, rfl⟩ := hrel
      have Hall := Lib.hid hall
      clear hall
      by_cases hlt : k < recs.length
      · obtain ⟨bb, off, cs, rfl, _, hbb, ⟨ra, rc, rfl, hrc1, hrc2, hrr⟩, hcell⟩ := Hrd.out.at k hlt
        have hce := hcell 0 Nat.one_pos
        simp only [Rep.slice, Nat.mul_one, Nat.add_zero, List.getElem?_cons_zero] at hce
        have hir : (k : Int) < (recs.length : Int) := by omega
        have hgk : recs[k]? = some recs[k] := List.getElem?_eq_getElem hlt
        obtain ⟨r, hr⟩ : ∃ r, recs[k] = r := ⟨_, rfl⟩
        rw [hr] at hce hrc1 hgk
        have Hgk := Lib.hid hgk
        clear hcell hrr hgk hr
        by_cases hbig : 100 < r.length
        · have hd2 : decide ((100 : Int) < r.length) = true := by simp; omega
          go_wp2_with (go_at_call 14; refine (awake14_any _).mono ?_; rintro e w1 ⟨rfl, hB1⟩)
          go_ret
          exact ⟨rfl, hB1⟩
        · have hd2 : decide ((100 : Int) < r.length) = false := by simp; omega
          go_wp2_with fail
          go_roundw
          case rel =>
            refine ⟨k + 1, by omega, by go_num, fun j hj r' hr' => ?_, rfl⟩
            by_cases hjk : j < k
            · exact Hall.out j hjk r' hr'
            · obtain rfl : j = k := by omega
              rw [Hgk.out] at hr'
              cases hr'
              omega
          case measure => simp [intOf]; omega
      · obtain rfl : k = recs.length := by omega
        have hPt := fun W h => rows_any recs ao cap W (by omega) h
        have hRt := fun W h => rrows_any recs ao cap W (by omega) h
        rw [rrows_rows] at hRt
        have hlen : (rowsOf recs).1.length ≤ 1073741824 := by have := rowsOf_len recs; omega
        have hrows : ∀ p ∈ (rowsOf recs).1, p.2.length ≤ 1073741824 := fun p hp => by have := rowsOf_arcs recs p hp; omega
        have he : (rowsOf recs).2 < 20 := rowsOf_err recs
        obtain ⟨⟨l, er⟩, hp⟩ : ∃ r, rowsOf recs = r := ⟨_, rfl⟩
        rw [hp] at hPt hRt hlen hrows he
        simp only at hlen hrows he
        have hee : ((er : Int) == er) = true := by simp
        have HPt := Lib.hid hPt
        have HRt := Lib.hid hRt
        have Hrows := Lib.hid hrows
        clear hPt hRt hrows hp
        go_wp2_with (first
          | (go_at_call 20; refine (HPt.out _ Hrd.out).mono ?_; rintro e w1 ⟨a1, c1, rfl, h1, h2, hr1, hB1⟩; have Hr1 := Lib.hid hr1; have HB1 := Lib.hid hB1; clear h1 h2 hr1 hB1)
          | (go_at_call 21; refine (HRt.out _ ((Hrd.out.ext HB1.out).mono (fun b hb _ => Nat.lt_of_lt_of_le hb HB1.out.size))).mono ?_; rintro e w2 ⟨a2, c2, rfl, h1, h2, hr2, hB2⟩; have Hr2 := Lib.hid hr2; have HB2 := Lib.hid hB2; clear h1 h2 hr2 hB2)
          | (go_at_call 22; refine (same14_any l a1 a2 c1 c2 _ _ _ hlen Hrows.out (Hr1.out.ext HB2.out) Hr2.out).mono ?_; rintro e w3 ⟨rfl, hB3⟩; have HB3 := Lib.hid hB3; clear hB3)
          | (go_at_call 14; refine (awake14_any _).mono ?_; rintro e w4 ⟨rfl, hB4⟩))
        go_ret
        exact ⟨rfl, ext_trans (ext_trans (ext_trans HB1.out HB2.out) HB3.out) hB4⟩
end Go.Proofs.Ytafbjkbdfdeacaa
