/- The reference's Num. -/
import Derived.Test.YtafbjkbdfdeacaaTextNum
namespace Go.Proofs.Ytafbjkbdfdeacaa
set_option linter.unusedSimpArgs false
set_option linter.unusedVariables false
open Go.RowKit

def maxDigits : List UInt8 := [49, 56, 52, 52, 54, 55, 52, 52, 48, 55, 51, 55, 48, 57, 53, 53, 49, 54, 49, 53]
theorem val_maxDigits : val maxDigits = 18446744073709551615 := by decide
theorem val_lower : ∀ (l : List UInt8), l ≠ [] → (1 < l.length → l.head? ≠ some 48) → l.all isDig = true → 20 < l.length → 18446744073709551615 < val l
  | [], h, _, _, _ => absurd rfl h
  | c :: r, _, h0, hall, hlen => by
    have h1 := h0 (by omega)
    simp only [List.all_cons, Bool.and_eq_true] at hall
    obtain ⟨d1, d2⟩ := (isDig_iff c).1 hall.1
    have hc : c.toNat ≠ 48 := fun e => h1 (by simp only [List.head?_cons, Option.some.injEq]; exact UInt8.toNat_inj.1 e)
    have hd : 1 ≤ digV c := by unfold digV; omega
    have e : val (c :: r) = valFrom (digV c) r := by show valFrom (10 * 0 + digV c) r = _; rw [Nat.mul_zero, Nat.zero_add]
    rw [e]
    have grow : ∀ (l : List UInt8) n, n * 10 ^ l.length ≤ valFrom n l := by
      intro l
      induction l with
      | nil => intro n; simp [valFrom]
      | cons x l ih =>
        intro n
        have := ih (10 * n + digV x)
        show _ ≤ valFrom (10 * n + digV x) l
        refine Nat.le_trans ?_ this
        rw [List.length_cons, Nat.pow_succ, Nat.mul_comm (10 ^ l.length) 10, ← Nat.mul_assoc]
        exact Nat.mul_le_mul_right _ (by omega)
    have h2 := grow r (digV c)
    have h3 : 10 ^ 20 ≤ 10 ^ r.length := Nat.pow_le_pow_right (by omega) (by simp at hlen; omega)
    have h4 : 10 ^ 20 ≤ digV c * 10 ^ r.length := Nat.le_trans h3 (Nat.le_mul_of_pos_left _ (by omega))
    have h5 : (10 : Nat) ^ 20 = 100000000000000000000 := rfl
    omega
/-- the reference's test of length and of the digits: too great for 64 bits? -/
theorem great_iff (l : List UInt8) (h0 : l ≠ []) (h1 : 1 < l.length → l.head? ≠ some 48) (hall : l.all isDig = true) :
    (20 < l.length ∨ (l.length = 20 ∧ maxDigits < l)) ↔ 18446744073709551615 < val l := by
  constructor
  · rintro (h | ⟨h, h2⟩)
    · exact val_lower l h0 h1 hall h
    · have := (lex_val maxDigits l (by rw [h]; rfl) (by decide) hall 0 0).2.2 rfl
      rw [decide_eq_true h2] at this
      have h3 := of_decide_eq_true this.symm
      have h4 : valFrom 0 maxDigits = 18446744073709551615 := val_maxDigits
      rw [h4] at h3
      exact h3
  · intro h
    by_cases h20 : 20 < l.length
    · exact .inl h20
    · have hle : l.length = 20 := by
        by_cases e : l.length = 20
        · exact e
        · have h3 := valFrom_lt l hall 0
          have h4 : 10 ^ l.length ≤ 10 ^ 19 := Nat.pow_le_pow_right (by omega) (by omega)
          have h5 : (10 : Nat) ^ 19 = 10000000000000000000 := rfl
          have h6 : val l = valFrom 0 l := rfl
          omega
      refine .inr ⟨hle, ?_⟩
      have := (lex_val maxDigits l (by rw [hle]; rfl) (by decide) hall 0 0).2.2 rfl
      have h4 : valFrom 0 maxDigits = 18446744073709551615 := val_maxDigits
      have h3 : decide (valFrom 0 maxDigits < valFrom 0 l) = true := by rw [h4]; exact decide_eq_true h
      rw [h3] at this
      exact of_decide_eq_true this

theorem bytesLess_dec : ∀ (x y : List UInt8), Op.bytesLess x y = decide (x < y)
  | [], [] => by simp [Op.bytesLess]
  | _ :: _, [] => by simp [Op.bytesLess]
  | [], _ :: _ => by simp [Op.bytesLess]
  | a :: x, b :: y => by
    rw [Op.bytesLess, bytesLess_dec x y, Bool.eq_iff_iff]
    simp [List.cons_lt_cons_iff]
theorem list_tri : ∀ (x y : List UInt8), x < y ∨ x = y ∨ y < x
  | [], [] => .inr (.inl rfl)
  | [], b :: y => .inl (by simp)
  | a :: x, [] => .inr (.inr (by simp))
  | a :: x, b :: y => by
    rw [List.cons_lt_cons_iff, List.cons_lt_cons_iff]
    rcases Nat.lt_trichotomy a.toNat b.toNat with h | h | h
    · exact .inl (.inl (UInt8.lt_iff_toNat_lt.2 h))
    · have hab : a = b := UInt8.toNat_inj.1 h
      subst hab
      rcases list_tri x y with h | h | h
      · exact .inl (.inr ⟨rfl, h⟩)
      · subst h; exact .inr (.inl rfl)
      · exact .inr (.inr (.inr ⟨rfl, h⟩))
    · exact .inr (.inr (.inl (UInt8.lt_iff_toNat_lt.2 h)))
theorem str_gtr (t : TypeId) (l m : List UInt8) (w : World) : (binOp .gtr t (.string (bs l)) (.string ⟨m.toArray⟩)).run Try.prog w = .ok (.bool (decide (m < l))) w := by
  have e0 : binOp .gtr t (.string (bs l)) (.string ⟨m.toArray⟩) = pure (.bool !(Op.bytesLess (bs l).toList (ByteArray.mk m.toArray).toList || (bs l).toList == (ByteArray.mk m.toArray).toList)) := by simp [binOp, Op.stringOp]
  rw [e0]
  have e : (ByteArray.mk m.toArray).toList = m := bs_toList m
  rw [bs_toList, e, bytesLess_dec]
  have h : (!(decide (l < m) || l == m)) = decide (m < l) := by
    rw [Bool.eq_iff_iff]
    simp only [Bool.not_eq_true', Bool.or_eq_false_iff, decide_eq_false_iff_not, beq_eq_false_iff_ne, decide_eq_true_eq]
    constructor
    · rintro ⟨h1, h2⟩
      rcases list_tri l m with h | h | h
      · exact absurd h h1
      · exact absurd h h2
      · exact h
    · intro h
      exact ⟨List.lt_asymm h, fun e => by subst e; exact List.lt_irrefl _ h⟩
  rw [h]
  rfl
def rnRel (l : List UInt8) (w : World) (i : Value) (wr : World) : Prop :=
  ∃ k : Nat, k ≤ l.length ∧ i = .int .i64 k ∧ (l.take k).all isDig = true ∧ wr = w
def rnRel2 (l : List UInt8) (w : World) (n i : Value) (wr : World) : Prop :=
  ∃ k : Nat, k ≤ l.length ∧ i = .int .i64 k ∧ n = .int .u64 (val (l.take k)) ∧ wr = w

set_option maxRecDepth 100000 in
set_option maxHeartbeats 3200000 in
theorem rnum_any (l : List UInt8) (most : Nat) (hl : l.length ≤ 1073741824) (hmost : most < 18446744073709551616) (w : World) :
    Calls Try.prog 54 #[.string (bs l), .int .u64 most] w fun e w' => e = numOut (num l most) ∧ w' = w := by
  have hsz := bs_size l
  by_cases h0 : l = []
  · subst h0
    go_enter Try.func54, Try.ntmps54
    go_wp2_with fail
    go_ret2
    exact ⟨rfl, rfl⟩
  have hlp : 0 < l.length := List.length_pos_iff.2 h0
  have hlp2 : ((l.length : Int) == 0) = false := by simp; omega
  have hget0 := bs_get l 0 (by rw [bs_size]; exact hlp)
  by_cases hz : 1 < l.length ∧ (l[0] == 48) = true
  · have hb3 : num l most = (0, 3) := by
      unfold num bad3
      have : l.head? = some 48 := by rw [List.head?_eq_getElem?, List.getElem?_eq_getElem hlp]; exact congrArg some (by simpa using hz.2)
      simp [hz.1, this]
    have n48 := eqB l[0] 48 48 rfl
    rw [hz.2] at n48
    have hlen : decide ((1 : Int) < l.length) = true := by simp; omega
    have Hb3 := Lib.hid hb3
    obtain ⟨hz1, hz2⟩ := hz
    clear hb3 hz2
    go_enter Try.func54, Try.ntmps54
    go_wp2_with fail
    go_ret2
    exact ⟨by rw [Hb3.out]; rfl, rfl⟩
  have hz48 : 1 < l.length → l.head? ≠ some 48 := by
    intro h1 h2
    rw [List.head?_eq_getElem?, List.getElem?_eq_getElem hlp] at h2
    exact hz ⟨h1, by simpa using Option.some.inj h2⟩
  have hbad : bad3 l = !l.all isDig := by
    unfold bad3
    have h1 : l.isEmpty = false := by simpa using h0
    rw [h1, Bool.false_or]
    have h2 : (decide (1 < l.length) && l.head? == some 48) = false := by
      rw [Bool.eq_false_iff]; intro h; simp only [Bool.and_eq_true, decide_eq_true_eq, beq_iff_eq] at h; exact hz48 h.1 h.2
    rw [h2, Bool.false_or]
  have n48 := eqB l[0] 48 48 rfl
  have hgreat := great_iff l h0 hz48
  have key : (decide ((1 : Int) < l.length) = false) ∨ (decide ((1 : Int) < l.length) = true ∧ (((l[0].toNat : Int)) == 48) = false) := by
    by_cases h : 1 < l.length
    · refine .inr ⟨by simp; omega, ?_⟩
      rw [n48]
      cases h2 : l[0] == 48 with
      | false => rfl
      | true => exact absurd ⟨h, h2⟩ hz
    · exact .inl (by simp; omega)
  have Hbad := Lib.hid hbad
  have Hgr := Lib.hid hgreat
  clear n48 hz hbad hz48 hgreat
  go_enter Try.func54, Try.ntmps54
  rcases key with h1 | ⟨h1, h2⟩
  all_goals
    go_wp2_with fail
    go_loopw [6] (fun i wr => rnRel l w i wr) (fun i _ => l.length - (intOf i).toNat)
    case atStart => exact ⟨0, by omega, rfl, rfl, rfl⟩
    case round =>
      obtain ⟨k, hk, rfl, hall, rfl⟩ := hrel
      by_cases hlt : k < l.length
      · have hget := bs_get l k (by rw [bs_size]; exact hlt)
        have hall2 : isDig l[k] = true → (l.take (k + 1)).all isDig = true := fun h => by rw [take_next l k hlt, List.all_append, hall, List.all_cons, h]; rfl
        have hnot : isDig l[k] = false → num l most = (0, 3) := fun h => by
          have h1 : l.all isDig = false := by
            rw [List.all_eq_false]; exact ⟨l[k], List.getElem_mem hlt, by rw [h]; simp⟩
          unfold num; rw [Hbad.out, h1]; rfl
        have hiff := isDig_iff l[k]
        generalize l[k] = c at *
        have Hnot := Lib.hid hnot
        have Hall2 := Lib.hid hall2
        clear hall hnot hall2
        by_cases hd : isDig c = true
        · obtain ⟨d1, d2⟩ := hiff.1 hd
          have hl48 : decide ((c.toNat : Int) < 48) = false := by simp; omega
          have hg57 : decide ((57 : Int) < c.toNat) = false := by simp; omega
          clear hiff
          go_wp2_with fail
          go_roundw
          case rel => exact ⟨k + 1, by omega, by go_num, Hall2.out hd, rfl⟩
          case measure => simp [intOf]; omega
        · have hd' : isDig c = false := by simpa using hd
          have Hd := Lib.hid (Hnot.out hd')
          have hcases : decide ((c.toNat : Int) < 48) = true ∨ (decide ((c.toNat : Int) < 48) = false ∧ decide ((57 : Int) < c.toNat) = true) := by
            rw [isDig_iff] at hd
            by_cases x : c.toNat < 48
            · exact .inl (by simp; omega)
            · exact .inr ⟨by simp; omega, by simp; omega⟩
          clear hd hiff
          rcases hcases with x1 | ⟨x1, x2⟩
          all_goals
            go_wp2_with fail
            go_ret2
            exact ⟨by rw [Hd.out]; rfl, rfl⟩
      · obtain rfl : k = l.length := by omega
        rw [List.take_length] at hall
        have hg := Hgr.out hall
        have hb : bad3 l = false := by rw [Hbad.out, hall]; rfl
        have hn : num l most = if most < val l then (0, 9) else (val l, 0) := by unfold num; rw [hb]; rfl
        by_cases hgt : 20 < l.length ∨ (l.length = 20 ∧ maxDigits < l)
        · have hn2 : num l most = (0, 9) := by rw [hn, if_pos (by have := hg.1 hgt; omega)]
          have Hn := Lib.hid hn2
          clear hn hn2 hb hg
          have kk : decide ((20 : Int) < l.length) = true ∨ (decide ((20 : Int) < l.length) = false ∧ ((l.length : Int) == 20) = true ∧ decide (maxDigits < l) = true) := by
            rcases hgt with h | ⟨h, h2⟩
            · exact .inl (by simp; omega)
            · exact .inr ⟨by simp; omega, by simp; omega, decide_eq_true h2⟩
          clear hgt
          have hsg := str_gtr 9 l maxDigits
          unfold maxDigits at kk hsg
          rcases kk with k1 | ⟨k1, k2, k3⟩
          all_goals
            first | (rw [k3] at hsg; clear k3) | clear hsg
            go_wp2_with fail
            go_ret2
            exact ⟨by rw [Hn.out]; rfl, rfl⟩
        · have hv : val l ≤ 18446744073709551615 := by
            rcases Nat.lt_or_ge 18446744073709551615 (val l) with h | h
            · exact absurd (hg.2 h) hgt
            · exact h
          have Hn := Lib.hid hn
          have kk : (decide ((20 : Int) < l.length) = false) ∧ (((l.length : Int) == 20) = false ∨ (((l.length : Int) == 20) = true ∧ decide (maxDigits < l) = false)) := by
            refine ⟨by simp; omega, ?_⟩
            by_cases x : l.length = 20
            · exact .inr ⟨by simp; omega, by simp only [decide_eq_false_iff_not]; exact fun h => hgt (.inr ⟨x, h⟩)⟩
            · exact .inl (by simp; omega)
          have mono : ∀ k, val (l.take k) ≤ val l := fun k => by
            have := valFrom_ge (l.drop k) (val (l.take k))
            have h2 : valFrom (val (l.take k)) (l.drop k) = val l := by unfold val; rw [← valFrom_append, List.take_append_drop]
            omega
          have Mono := Lib.hid mono
          clear hgt hn hb hg mono
          have hsg := str_gtr 9 l maxDigits
          unfold maxDigits at kk hsg
          have Hall := Lib.hid (List.all_eq_true.1 hall)
          obtain ⟨k1, k2⟩ := kk
          clear hall
          rcases k2 with k2 | ⟨k2, k3⟩
          all_goals
            first | (rw [k3] at hsg; clear k3) | clear hsg
            go_wp2_with fail
            go_loopw [7, 8] (fun n i wr' => rnRel2 l wr n i wr') (fun _ i _ => l.length - (intOf i).toNat)
            case atStart => exact ⟨0, by omega, rfl, rfl, rfl⟩
            case round =>
              obtain ⟨k, hk, rfl, rfl, rfl⟩ := hrel
              by_cases hlt : k < l.length
              · have hget := bs_get l k (by rw [bs_size]; exact hlt)
                have hvn := val_next (l.take k) l[k]
                rw [← take_next l k hlt] at hvn
                unfold digV at hvn
                have hm1 := Mono.out (k + 1)
                obtain ⟨d1, d2⟩ := (isDig_iff l[k]).1 (Hall.out l[k] (List.getElem_mem hlt))
                generalize l[k] = c at *
                generalize val (l.take k) = v at *
                obtain ⟨v', hv'⟩ : ∃ v', val (l.take (k + 1)) = v' := ⟨_, rfl⟩
                rw [hv'] at hvn hm1
                have Hv := Lib.hid hv'
                clear hv'
                go_wp2_with fail
                go_roundw
                case rel => exact ⟨k + 1, by omega, by go_num, by rw [Hv.out, hvn]; go_num, rfl⟩
                case measure => simp [intOf]; omega
              · obtain rfl : k = l.length := by omega
                rw [List.take_length]
                by_cases hmv : most < val l
                · have hn2 := Hn.out
                  rw [if_pos hmv] at hn2
                  have Hn2 := Lib.hid hn2
                  have hd : decide ((most : Int) < val l) = true := by simp; omega
                  generalize val l = v at *
                  clear hn2
                  go_wp2_with fail
                  go_ret2
                  exact ⟨by rw [Hn2.out]; rfl, rfl⟩
                · have hn2 := Hn.out
                  rw [if_neg hmv] at hn2
                  have Hn2 := Lib.hid hn2
                  have hd : decide ((most : Int) < val l) = false := by simp; omega
                  generalize val l = v at *
                  clear hn2
                  go_wp2_with fail
                  go_ret2
                  exact ⟨by rw [Hn2.out]; rfl, rfl⟩
end Go.Proofs.Ytafbjkbdfdeacaa
