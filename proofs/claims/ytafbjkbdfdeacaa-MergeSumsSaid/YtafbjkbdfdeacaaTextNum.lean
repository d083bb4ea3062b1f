/- text.Num. -/
import Derived.Test.YtafbjkbdfdeacaaTextSame
import Derived.Lib.ConvBytes
namespace Go.Proofs.Ytafbjkbdfdeacaa
set_option linter.unusedSimpArgs false
set_option linter.unusedVariables false
open Go.RowKit
attribute [local go_sem] Oper.semAt_some

/-- '[]byte(s)' -/
theorem conv_bytes (l : List UInt8) (w : World) : ∃ cap w1, (convert 9 25 (.string (bs l))).run Try.prog w = .ok (.slice (some ⟨w.heap.size, 0, none⟩) l.length cap) w1 ∧ Below w.heap.size w w1 ∧
    w.heap.size < w1.heap.size ∧ ∀ j, j < l.length → w1.cell? ⟨w.heap.size, j, none⟩ = (byteVals l)[j]? := by
  have h := Lib.run_convert_string_bytes (P := Try.prog) w 9 25 5 (bs l) Try.underlying9 Try.underlying25 Try.underlying5
  rw [bs_size] at h
  refine ⟨_, _, h, bytesWorld_below _ _ _, by rw [Lib.bytesWorld_size]; omega, fun j hj => ?_⟩
  rw [Lib.bytesWorld_cell w 5 (bs l) j (by rw [bs_size]; exact hj), bs_data]
  simp [byteVals, List.getD, List.getElem?_eq_getElem hj]

/-- the error's values -/
def numOut (r : Nat × Nat) : Ending := .returned (.tuple #[.int .u64 r.1, .int .i64 r.2])

def numRel (l : List UInt8) (most : Nat) (w w1 : World) (n o i : Value) (wr : World) : Prop :=
  ∃ (k m : Nat) (over : Bool), k ≤ l.length ∧ i = .int .i64 k ∧ n = .int .u64 m ∧ o = .bool over ∧ m < 18446744073709551616 ∧ (l.take k).all isDig = true ∧
    (over = false → m = val (l.take k) ∧ m ≤ most) ∧ (over = true → most < val (l.take k)) ∧ Below w1.heap.size w1 wr

theorem isDig_iff (c : UInt8) : isDig c = true ↔ 48 ≤ c.toNat ∧ c.toNat ≤ 57 := by
  unfold isDig
  rw [Bool.and_eq_true, decide_eq_true_eq, decide_eq_true_eq, UInt8.le_iff_toNat_le, UInt8.le_iff_toNat_le]
  exact Iff.rfl
theorem val_next (p : List UInt8) (c : UInt8) : val (p ++ [c]) = 10 * val p + digV c := by
  unfold val; rw [valFrom_append]; rfl

set_option maxRecDepth 100000 in
set_option maxHeartbeats 3200000 in
theorem num_any (l : List UInt8) (most : Nat) (hl : l.length ≤ 1073741824) (hmost : most < 18446744073709551616) (w : World) :
    Calls Try.prog 63 #[.string (bs l), .int .u64 most] w fun e w' => e = numOut (num l most) ∧ Below w.heap.size w w' := by
  have hsz := bs_size l
  by_cases h0 : l = []
  · subst h0
    go_enter Try.func63, Try.ntmps63
    go_wp2_with fail
    go_ret2
    exact ⟨rfl, Below.refl _ _⟩
  have hemp : l.isEmpty = false := by simpa using h0
  have hlp : 0 < l.length := List.length_pos_iff.2 h0
  have hget0 := bs_get l 0 (by rw [bs_size]; exact hlp)
  by_cases hz : 1 < l.length ∧ (l[0] == 48) = true
  · have hb3 : num l most = (0, 3) := by
      unfold num bad3
      have : l.head? = some 48 := by rw [List.head?_eq_getElem?, List.getElem?_eq_getElem hlp]; exact congrArg some (by simpa using hz.2)
      simp [hz.1, this]
    have n48 := eqB l[0] 48 48 rfl
    rw [hz.2] at n48
    have hlen : decide ((1 : Int) < l.length) = true := by simp; omega
    have Hb3 := Lib.hid hb3
    obtain ⟨hz1, hz2⟩ := hz
    clear hb3 hz2
    go_enter Try.func63, Try.ntmps63
    go_wp2_with fail
    go_ret2
    exact ⟨by rw [Hb3.out]; rfl, Below.refl _ _⟩
  have hz48 : ¬ (1 < l.length ∧ l.head? = some 48) := by
    rintro ⟨h1, h2⟩
    rw [List.head?_eq_getElem?, List.getElem?_eq_getElem hlp] at h2
    exact hz ⟨h1, by simpa using Option.some.inj h2⟩
  have hbad : bad3 l = !l.all isDig := by
    unfold bad3
    have h1 : l.isEmpty = false := by simpa using h0
    rw [h1, Bool.false_or]
    have h2 : (decide (1 < l.length) && l.head? == some 48) = false := by
      rw [Bool.eq_false_iff]; intro h; apply hz48; simpa using h
    rw [h2, Bool.false_or]
  obtain ⟨cap, w1, hcv, hB1, hw1, hcell⟩ := conv_bytes l w
  have body : ∀ (t : Act) , True := fun _ => trivial
  have n48 := eqB l[0] 48 48 rfl
  have Hbad := Lib.hid hbad
  have Hcell := Lib.hid hcell
  have HB1 := Lib.hid hB1
  clear hbad hz48 hcell hB1 body
  have key : (decide ((1 : Int) < l.length) = false) ∨ (decide ((1 : Int) < l.length) = true ∧ (((l[0].toNat : Int)) == 48) = false) := by
    by_cases h : 1 < l.length
    · refine .inr ⟨by simp; omega, ?_⟩
      rw [n48]
      cases h2 : l[0] == 48 with
      | false => rfl
      | true => exact absurd ⟨h, h2⟩ hz
    · exact .inl (by simp; omega)
  clear n48 hz
  go_enter Try.func63, Try.ntmps63
  rcases key with h1 | ⟨h1, h2⟩
  all_goals
    go_wp2_with fail
    go_loopw [6, 7, 9, 10, 11, 12, 13, 29] (fun n o _ _ _ _ _ i wr => numRel l most w w1 n o i wr) (fun _ _ _ _ _ _ _ i _ => l.length - (intOf i).toNat)
    case atStart => exact ⟨0, 0, false, by omega, rfl, rfl, rfl, by omega, rfl, fun _ => ⟨rfl, by omega⟩, (fun h => by cases h), Below.refl _ _⟩
    case round =>
      obtain ⟨k, m, over, hk, rfl, rfl, rfl, hm, hall, hno, hov, hB⟩ := hrel
      by_cases hlt : k < l.length
      · have hc : wr.cell? ⟨w.heap.size, k, none⟩ = some (.int .u8 l[k].toNat) := by
          rw [hB.cell (p := ⟨w.heap.size, k, none⟩) hw1, Hcell.out k hlt]; simp [byteVals, List.getElem?_eq_getElem hlt]
        have htk := take_next l k hlt
        have hvn := val_next (l.take k) l[k]
        have hnot : isDig l[k] = false → num l most = (0, 3) := fun h => by
          have h1 : l.all isDig = false := by
            rw [List.all_eq_false]; exact ⟨l[k], List.getElem_mem hlt, by rw [h]; simp⟩
          unfold num; rw [Hbad.out, h1]; rfl
        have hir : (k : Int) < (l.length : Int) := by omega
        have hall2 : isDig l[k] = true → (l.take (k + 1)).all isDig = true := fun h => by rw [htk, List.all_append, hall, List.all_cons, h]; rfl
        rw [← htk] at hvn
        unfold digV at hvn
        have hiff := isDig_iff l[k]
        have hp : ((l[k].toNat : Nat) : Int) ≤ 255 := by have := l[k].toNat_lt; omega
        clear htk hall
        generalize l[k] = c at *
        have HB := Lib.hid hB
        have Hnot := Lib.hid hnot
        have Hall2 := Lib.hid hall2
        have Hno := Lib.hid hno
        have Hov := Lib.hid hov
        have Hvn := Lib.hid hvn
        clear hB hnot hall2 hno hov hvn
        by_cases hd : isDig c = true
        · obtain ⟨d1, d2⟩ := hiff.1 hd
          have hl48 : decide ((c.toNat : Int) < 48) = false := by simp; omega
          have hg57 : decide ((57 : Int) < c.toNat) = false := by simp; omega
          obtain ⟨hi, hhi⟩ : ∃ hi : Nat, m * 10 / 18446744073709551616 = hi := ⟨_, rfl⟩
          obtain ⟨lo, hlo⟩ : ∃ lo : Nat, m * 10 % 18446744073709551616 = lo := ⟨_, rfl⟩
          have hmul := mul64_any m hm
          rw [hhi, hlo] at hmul
          have hadd := add64_run (lo : Int) ((c.toNat : Int) - 48) (by omega) (by omega)
          obtain ⟨s, hs⟩ : ∃ s : Nat, ((lo : Int) + ((c.toNat : Int) - 48)) % 18446744073709551616 = s := ⟨(((lo : Int) + ((c.toNat : Int) - 48)) % 18446744073709551616).toNat, by omega⟩
          obtain ⟨cy, hcy⟩ : ∃ cy : Nat, ((lo : Int) + ((c.toNat : Int) - 48)) / 18446744073709551616 = cy := ⟨(((lo : Int) + ((c.toNat : Int) - 48)) / 18446744073709551616).toNat, by omega⟩
          rw [hs, hcy] at hadd
          have hs2 : s < 18446744073709551616 := by omega
          have hsum : m * 10 + (c.toNat - 48) = hi * 18446744073709551616 + cy * 18446744073709551616 + s := by omega
          have fin : ∀ over' : Bool, (over' = false → over = false ∧ hi = 0 ∧ cy = 0 ∧ s ≤ most) → (over' = true → over = true ∨ hi ≠ 0 ∨ cy ≠ 0 ∨ most < s) →
              Hid (numRel l most w w1 (Value.int IntKind.u64 s) (Value.bool over') (Value.int IntKind.i64 ((k : Int) + 1)) wr) := fun over' g1 g2 => by
            refine ⟨k + 1, s, over', by omega, by go_num, rfl, rfl, hs2, Hall2.out hd, fun h => ?_, fun h => ?_, HB.out⟩
            · obtain ⟨e1, e2, e3, e4⟩ := g1 h
              have := Hno.out e1
              rw [Hvn.out]
              exact ⟨by omega, e4⟩
            · rw [Hvn.out]
              cases ho : over with
              | true => have := Hov.out ho; omega
              | false =>
                have := Hno.out ho
                rcases g2 h with e | e | e | e
                · rw [e] at ho; cases ho
                · omega
                · omega
                · omega
          have Fin := Lib.hid fin
          have hcases : over = true ∨ (over = false ∧ ((hi : Int) != 0) = true) ∨ (over = false ∧ ((hi : Int) != 0) = false ∧ ((cy : Int) != 0) = true) ∨ (over = false ∧ ((hi : Int) != 0) = false ∧ ((cy : Int) != 0) = false) := by
            cases over
            · by_cases x1 : hi = 0
              · by_cases x2 : cy = 0
                · exact .inr (.inr (.inr ⟨rfl, by simp [x1], by simp [x2]⟩))
                · exact .inr (.inr (.inl ⟨rfl, by simp [x1], by simp; omega⟩))
              · exact .inr (.inl ⟨rfl, by simp; omega⟩)
            · exact .inl rfl
          clear fin hs hcy hhi hlo hsum hiff
          rcases hcases with rfl | ⟨rfl, x1⟩ | ⟨rfl, x1, x2⟩ | ⟨rfl, x1, x2⟩
          all_goals
            go_wp2_with (go_at_call 69; refine (hmul _).mono ?_; rintro e w' ⟨rfl, rfl⟩)
            go_roundw
            case rel => exact (Fin.out _ (by simp_all <;> omega) (by simp_all <;> omega)).out
            case measure => simp [intOf]; omega
        · have hd' : isDig c = false := by simpa using hd
          have Hd := Lib.hid (Hnot.out hd')
          have hcases : decide ((c.toNat : Int) < 48) = true ∨ (decide ((c.toNat : Int) < 48) = false ∧ decide ((57 : Int) < c.toNat) = true) := by
            rw [isDig_iff] at hd
            by_cases x : c.toNat < 48
            · exact .inl (by simp; omega)
            · exact .inr ⟨by simp; omega, by simp; omega⟩
          clear hd hiff
          rcases hcases with x1 | ⟨x1, x2⟩
          all_goals
            go_wp2_with fail
            go_ret2
            exact ⟨by rw [Hd.out]; rfl, HB1.out.trans (HB.out.mono (by omega))⟩
      · obtain rfl : k = l.length := by omega
        rw [List.take_length] at hall hno hov
        have hb : bad3 l = false := by rw [Hbad.out, hall]; rfl
        have hn : num l most = if most < val l then (0, 9) else (val l, 0) := by unfold num; rw [hb]; rfl
        have HB := Lib.hid hB
        have Hn := Lib.hid hn
        have Hno := Lib.hid hno
        have Hov := Lib.hid hov
        clear hB hn hno hov hb
        cases over
        · go_wp2_with fail
          go_ret2
          obtain ⟨e1, e2⟩ := Hno.out (by trivial)
          have hn2 := Hn.out
          rw [← e1, if_neg (by omega)] at hn2
          exact ⟨by rw [hn2]; rfl, HB1.out.trans (HB.out.mono (by omega))⟩
        · go_wp2_with fail
          go_ret2
          have hn2 := Hn.out
          rw [if_pos (Hov.out (by trivial))] at hn2
          exact ⟨by rw [hn2]; rfl, HB1.out.trans (HB.out.mono (by omega))⟩
end Go.Proofs.Ytafbjkbdfdeacaa
