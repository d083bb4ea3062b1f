/- palmerlaw14.MergeSums: the walk. -/
import Derived.Test.YtafbjkbdfdeacaaMergeSumsMay
namespace Go.Proofs.Ytafbjkbdfdeacaa
set_option linter.unusedSimpArgs false
set_option linter.unusedVariables false
open Go.RowKit

def overB (l : List EdgeD) (k : Nat) : Bool := (l.take k).any (fun x => decide (2147483647 < outw l x.1))
theorem overB_take (l : List EdgeD) (k : Nat) (h : k < l.length) : overB l (k + 1) = (overB l k || decide (2147483647 < outw l l[k].1)) := by
  unfold overB
  rw [List.take_succ_eq_append_getElem h, List.any_append]
  simp
def s1I (l : List EdgeD) (w : World) (ov i : Value) (wr : World) : Prop := ∃ k m : Nat, k ≤ l.length ∧ i = .int .i64 (k : Nat) ∧ ov = .bool (overB l k) ∧ (∀ x ∈ l.take k, x.2.2 ≠ 0) ∧ wr = w.drewN m
def s2I (l : List EdgeD) (f : Nat) (w : World) (s i : Value) (wr : World) : Prop := ∃ j m : Nat, j ≤ l.length ∧ i = .int .i64 (j : Nat) ∧ s = .int .u64 (outw (l.take j) f : Nat) ∧ wr = w.drewN m

def s3I (R : List RowD) (w : World) (a i : Value) (wr : World) : Prop := ∃ k : Nat, k ≤ R.length ∧ i = .int .i64 (k : Nat) ∧ a = .int .i64 (arcsN (R.take k) : Nat) ∧ arcsN (R.take k) ≤ k * 1000 ∧ Below w.heap.size w wr
def s4I (n A : Nat) (w : World) (a i : Value) (wr : World) : Prop := ∃ k m : Nat, k ≤ n ∧ i = .int .i64 (k : Nat) ∧ a = .int .i64 (A + k : Nat) ∧ wr = w.drewN m
def s5I (l : List EdgeD) (f t : Nat) (w : World) (s i : Value) (wr : World) : Prop := ∃ j m : Nat, j ≤ l.length ∧ i = .int .i64 (j : Nat) ∧ s = .int .u32 (wt (l.take j) f t : Nat) ∧ wr = w.drewN m
def notInB (l : List EdgeD) (x : EdgeD) : Bool := l.all (fun y => y.1 != x.1 || y.2.1 != x.2.1)
theorem notInB_take (l : List EdgeD) (x : EdgeD) (k : Nat) (h : k < l.length) : notInB (l.take (k + 1)) x = (notInB (l.take k) x && (l[k].1 != x.1 || l[k].2.1 != x.2.1)) := by
  unfold notInB
  rw [List.take_succ_eq_append_getElem h, List.all_append]
  simp
theorem notInB_iff (l : List EdgeD) (x : EdgeD) : notInB l x = true ↔ ¬ ((x.1, x.2.1) ∈ pairsU l) := by
  rw [(pairsU_all l).2]
  unfold notInB
  rw [List.all_eq_true]
  constructor
  · rintro h ⟨y, hy, he⟩
    have := h y hy
    simp only [Prod.mk.injEq] at he
    simp [he.1, he.2] at this
  · intro h y hy
    rw [Bool.or_eq_true, bne_iff_ne, bne_iff_ne]
    by_cases h1 : y.1 = x.1
    · exact .inr (fun h2 => h ⟨y, hy, by rw [h1, h2]⟩)
    · exact .inl h1
theorem pairsU_take (l : List EdgeD) (k : Nat) (h : k < l.length) : (pairsU (l.take (k + 1))).length = (pairsU (l.take k)).length + if notInB (l.take k) l[k] = true then 1 else 0 := by
  have hi := notInB_iff (l.take k) l[k]
  have hs : pairsU (l.take (k + 1)) = if (l[k].1, l[k].2.1) ∈ pairsU (l.take k) then pairsU (l.take k) else pairsU (l.take k) ++ [(l[k].1, l[k].2.1)] := by
    rw [List.take_succ_eq_append_getElem h]
    exact pairsOf_snoc _ _ _
  rw [hs]
  by_cases hm : (l[k].1, l[k].2.1) ∈ pairsU (l.take k)
  · rw [if_pos hm, if_neg (fun h => hi.1 h hm)]; rfl
  · rw [if_neg hm, if_pos (hi.2 hm)]; simp
theorem pairsU_le (l : List EdgeD) : ∀ k, k ≤ l.length → (pairsU (l.take k)).length ≤ k
  | 0, _ => by simp [pairsU, pairsOf]
  | k + 1, h => by
    have := pairsU_le l k (by omega)
    rw [pairsU_take l k (by omega)]
    split <;> omega
def s6I (l : List EdgeD) (w : World) (p i : Value) (wr : World) : Prop := ∃ k m : Nat, k ≤ l.length ∧ i = .int .i64 (k : Nat) ∧ p = .int .i64 ((pairsU (l.take k)).length : Nat) ∧ wr = w.drewN m
def s7I (l : List EdgeD) (x : EdgeD) (k : Nat) (w : World) (f i : Value) (wr : World) : Prop := ∃ j m : Nat, j ≤ k ∧ i = .int .i64 (j : Nat) ∧ f = .bool (notInB (l.take j) x) ∧ wr = w.drewN m
set_option maxRecDepth 100000 in
set_option maxHeartbeats 3200000 in
theorem mergeSums_walk (l : List EdgeD) (ao : Option Addr) (cap : Nat) (w : World) (hcap : l.length ≤ cap) (hcm : cap ≤ maxLen) (hrd : RdS edgeRep (fun b => b < w.heap.size) w ao l) :
    Calls Try.prog 6 #[.slice ao l.length cap] w fun e w' => e = .returned (.bool true) ∧ Below w.heap.size w w' := by
  by_cases hl : 100 < l.length
  · have hd : decide ((100 : Int) < l.length) = true := by simp; omega
    clear hrd
    go_enter Try.func6, Try.ntmps6
    go_wp2_with (go_at_call 14; refine (awake14_any _).mono ?_; rintro e w1 ⟨rfl, hB1⟩)
    go_ret
    exact ⟨rfl, hB1⟩
  · have hd : decide ((100 : Int) < l.length) = false := by simp; omega
    have hok : ∀ x ∈ l, okE x := fun x hx => by
      obtain ⟨j, hj, rfl⟩ := List.mem_iff_getElem.1 hx
      obtain ⟨_, _, _, _, _, _, _, h⟩ := hrd.edgeM j hj
      exact h
    have hbd := outw_bound l hok
    have Hrd := Lib.hid hrd
    have Hok := Lib.hid hok
    have Hbd := Lib.hid hbd
    clear hrd hok hbd
    go_enter Try.func6, Try.ntmps6
    go_wp2_with fail
    go_loopw [3, 4] (fun ov i wr => s1I l w ov i wr) (fun _ i _ => l.length - (intOf i).toNat)
    case atStart => exact ⟨0, 0, by omega, rfl, rfl, by simp, rfl⟩
    case round =>
      obtain ⟨k, m, hk, rfl, rfl, hnz, rfl⟩ := hrel
      have Hnz := Lib.hid hnz
      clear hnz
      by_cases hlt : k < l.length
      · obtain ⟨bb, off, rfl, hbb, lc0, lc1, lc2, hoke⟩ := Hrd.out.edgeM k hlt
        have hir : (k : Int) < (l.length : Int) := by omega
        have hov := overB_take l k hlt
        have htk : l.take (k + 1) = l.take k ++ [l[k]] := List.take_succ_eq_append_getElem hlt
        generalize l[k] = x at lc0 lc1 lc2 hoke hov htk
        obtain ⟨x0, x1, x2⟩ := x
        simp only at lc0 lc1 lc2 hov
        by_cases hz : x2 = 0
        · subst hz
          clear hov htk hoke
          go_wp2_with (go_at_call 14; refine (awake14_any _).mono ?_; rintro e w1 ⟨rfl, hB1⟩)
          go_ret
          exact ⟨rfl, (ext_drewN w m).trans (hB1.mono (by simp))⟩
        · have hz0 : ((x2 : Int) == 0) = false := by simp; omega
          have Htk := Lib.hid htk
          generalize overB l k = ob at hov ⊢
          have Hov := Lib.hid hov
          clear hov htk hoke
          go_wp2_with fail
          go_loopw [5, 6] (fun s i wr => s2I l x0 w s i wr) (fun _ i _ => l.length - (intOf i).toNat)
          case atStart => exact ⟨0, m, by omega, rfl, by simp [outw], rfl⟩
          case round =>
            obtain ⟨j, m2, hj, rfl, rfl, rfl⟩ := hrel
            have hb1 := outw_take_le l j x0
            have hb2 := Hbd.out x0
            by_cases hjl : j < l.length
            · obtain ⟨b', o', hab, hb', jc0, jc1, jc2, hokj⟩ := Hrd.out.edgeM j hjl
              cases hab
              have hjr : (j : Int) < (l.length : Int) := by omega
              have hst := outw_take l j hjl x0
              have hb3 := outw_take_le l (j + 1) x0
              generalize l[j] = y at jc0 jc1 jc2 hokj hst
              obtain ⟨y0, y1, y2⟩ := y
              simp only at jc0 jc1 jc2 hst
              have hyb : y2 < 4294967296 := hokj.2.2
              generalize outw (l.take j) x0 = S at hst hb1 ⊢
              have hSb : S ≤ 429496729600 := by omega
              by_cases hf : y0 = x0
              · have hq : ((y0 : Int) == (x0 : Int)) = true := by simp [hf]
                rw [if_pos hf] at hst
                have Hst := Lib.hid hst
                clear hst hb1 hb2 hb3 hf hokj
                go_wp2_with fail
                go_quiet (fail)
                go_wp2_with fail
                go_roundw
                case rel => exact ⟨j + 1, _, by omega, by go_num, by rw [Hst.out]; go_num, rfl⟩
                case measure => simp [intOf]; omega
              · have hq : ((y0 : Int) == (x0 : Int)) = false := by simp; omega
                rw [if_neg hf] at hst
                have Hst := Lib.hid hst
                clear hst hb1 hb2 hb3 hf hokj
                go_wp2_with fail
                go_quiet (fail)
                go_wp2_with fail
                go_roundw
                case rel => exact ⟨j + 1, _, by omega, by go_num, by rw [Hst.out]; rfl, rfl⟩
                case measure => simp [intOf]; omega
            · obtain rfl : j = l.length := by omega
              rw [List.take_length] at hb1 ⊢
              have hSb : outw l x0 ≤ 429496729600 := by omega
              generalize outw l x0 = S at Hov hSb ⊢
              clear hb1 hb2
              have hnz' : ∀ x ∈ l.take (k + 1), x.2.2 ≠ 0 := fun x hx => by
                rw [Htk.out] at hx
                rcases List.mem_append.1 hx with h | h
                · exact Hnz.out x h
                · rw [List.mem_singleton.1 h]; exact hz
              have Hnz' := Lib.hid hnz'
              clear hnz'
              by_cases hS : 2147483647 < S
              · have hSd : decide ((2147483647 : Int) < (S : Int)) = true := decide_eq_true (by omega)
                have Hov2 := Lib.hid (show overB l (k + 1) = true by rw [Hov.out]; simp [hS])
                clear hS
                cases ob
                · go_wp2_with fail
                  go_roundw
                  case rel => exact ⟨k + 1, m2, by omega, by go_num, by rw [Hov2.out], Hnz'.out, rfl⟩
                  case measure => simp [intOf]; omega
                · go_wp2_with fail
                  go_roundw
                  case rel => exact ⟨k + 1, m2, by omega, by go_num, by rw [Hov2.out], Hnz'.out, rfl⟩
                  case measure => simp [intOf]; omega
              · have hSd : decide ((2147483647 : Int) < (S : Int)) = false := decide_eq_false (by omega)
                have Hov2 := Lib.hid (show overB l (k + 1) = ob by rw [Hov.out]; simp [hS])
                clear hS
                cases ob
                · go_wp2_with fail
                  go_roundw
                  case rel => exact ⟨k + 1, m2, by omega, by go_num, by rw [Hov2.out], Hnz'.out, rfl⟩
                  case measure => simp [intOf]; omega
                · go_wp2_with fail
                  go_roundw
                  case rel => exact ⟨k + 1, m2, by omega, by go_num, by rw [Hov2.out], Hnz'.out, rfl⟩
                  case measure => simp [intOf]; omega
      · obtain rfl : k = l.length := by omega
        have hnz := Hnz.out
        rw [List.take_length] at hnz
        have hre := rows_edges l (fun x hx => ⟨Hok.out x hx, hnz x hx⟩)
        have hpa := fun R h1 h2 => pairs_arcs (R := R) (l := l) h1 h2 hnz
        have hovt : overB l l.length = true ↔ ∃ x ∈ l, 2147483647 < outw l x.1 := by unfold overB; rw [List.take_length, List.any_eq_true]; simp
        have HS1 := Lib.hid (fun (W : World) (hB : Below w.heap.size w W) => rsorted_any l ao cap _ W (by omega) (Hrd.out.ext hB))
        have HK := Lib.hid (fun (s : List EdgeD) (W : World) (a : Option Addr) (c : Nat) (fp : Nat → Prop) (hs : s.length ≤ 1000) (h : RdS edgeRep fp W a s) => rkeys_any s a c fp W (by omega) h)
        have HRw := Lib.hid (fun (s : List (List UInt8)) (W : World) (a : Option Addr) (c : Nat) (hs : s.length ≤ 1000) (h : RdS (Rep.slice Rep.u8) (fun k => k < W.heap.size) W a s) => rows_any s a c W (by omega) h)
        have Hsl1 := Lib.hid (sortR_len l)
        have Hkl : Hid (∀ s, (keysM s).length = s.length) := Lib.hid (fun s => by simp [keysM])
        have Hnz2 := Lib.hid hnz
        rcases hre with ⟨hex, hrw⟩ | ⟨hle, R, hrw, hcan, hrep, hsum⟩
        · have hob : overB l l.length = true := hovt.2 hex
          have Hp := Lib.hid hrw
          rw [hob]
          clear hex hrw hovt hob hnz hpa
          go_wp2_with (first
            | (first
  | (go_at_call 27; (with_reducible refine (HS1.out _ (ext_drewN w m)).mono ?_); rintro e w4 ⟨a4, k4, rfl, h1, h2, hr4, hB4⟩; have Hr4 := Lib.hid hr4; have HB4 := Lib.hid ((ext_drewN w m).trans (hB4.mono (by simp))); have HQ4 := Lib.hid hB4; clear h1 h2 hr4 hB4)
  | (go_at_call 26; (with_reducible refine (HK.out _ w4 a4 k4 _ (by rw [Hsl1.out]; omega) Hr4.out).mono ?_); rintro e w5 ⟨a5, k5, rfl, h1, h2, hr5, hB5⟩; have Hr5 := Lib.hid hr5; have HB5 := Lib.hid (HB4.out.trans (hB5.mono HB4.out.size)); clear h1 h2 hr5 hB5)
  | (go_at_call 20; (with_reducible refine (HRw.out _ w5 a5 k5 (by rw [Hkl.out, Hsl1.out]; omega) (Hr5.out.mono (fun b _ hb => hb))).mono ?_); rintro e w6 ⟨a6, k6, rfl, h1, h2, hr6, hB6⟩; have HB6 := Lib.hid (HB5.out.trans (hB6.mono HB5.out.size)); rw [Hp.out] at hr6 ⊢; have Hr6 := Lib.hid hr6; clear h1 h2 hr6 hB6))
            | (go_at_call 14; refine (awake14_any _).mono ?_; rintro e wb ⟨rfl, hBb⟩; have HBb := Lib.hid (HB6.out.trans (hBb.mono HB6.out.size)); clear hBb))
          go_ret
          exact ⟨rfl, HBb.out⟩
        · have hob : overB l l.length = false := by
            cases hb : overB l l.length with
            | false => rfl
            | true => obtain ⟨x, hx, hx2⟩ := hovt.1 hb; have := hle x hx; omega
          have Hp := Lib.hid hrw
          have Hcan := Lib.hid hcan
          have Hrep := Lib.hid hrep
          have Hsum := Lib.hid hsum
          have Hle := Lib.hid hle
          have Hpa := Lib.hid (hpa R hcan hrep)
          rw [hob]
          clear hle hrw hovt hob hnz hpa hcan hrep hsum
          go_wp2_with (first
  | (go_at_call 27; (with_reducible refine (HS1.out _ (ext_drewN w m)).mono ?_); rintro e w4 ⟨a4, k4, rfl, h1, h2, hr4, hB4⟩; have Hr4 := Lib.hid hr4; have HB4 := Lib.hid ((ext_drewN w m).trans (hB4.mono (by simp))); have HQ4 := Lib.hid hB4; clear h1 h2 hr4 hB4)
  | (go_at_call 26; (with_reducible refine (HK.out _ w4 a4 k4 _ (by rw [Hsl1.out]; omega) Hr4.out).mono ?_); rintro e w5 ⟨a5, k5, rfl, h1, h2, hr5, hB5⟩; have Hr5 := Lib.hid hr5; have HB5 := Lib.hid (HB4.out.trans (hB5.mono HB4.out.size)); clear h1 h2 hr5 hB5)
  | (go_at_call 20; (with_reducible refine (HRw.out _ w5 a5 k5 (by rw [Hkl.out, Hsl1.out]; omega) (Hr5.out.mono (fun b _ hb => hb))).mono ?_); rintro e w6 ⟨a6, k6, rfl, h1, h2, hr6, hB6⟩; have HB6 := Lib.hid (HB5.out.trans (hB6.mono HB5.out.size)); rw [Hp.out] at hr6 ⊢; have Hr6 := Lib.hid hr6; clear h1 h2 hr6 hB6))
          have hRl : R.length ≤ 1000 := by have := rowsOf_len (keysM (sortR l)); rw [Hkl.out, Hsl1.out, Hp.out] at this; simp only at this; omega
          have hRa : ∀ r ∈ R, r.2.length ≤ 1000 := fun r hr => by have := rowsOf_arcs (keysM (sortR l)) r (by rw [Hp.out]; exact hr); rw [Hkl.out, Hsl1.out] at this; omega
          have HRa := Lib.hid hRa
          have Hl6 := Lib.hid ((Hrd.out.ext HB6.out))
          clear hRa HS1 HK HRw Hp
          go_loopw [9, 10] (fun a i wr => s3I R w6 a i wr) (fun _ i _ => R.length - (intOf i).toNat)
          case atStart => exact ⟨0, by omega, rfl, by simp [arcsN], by simp [arcsN], Below.refl _ _⟩
          case round =>
            obtain ⟨k, hk, rfl, rfl, hAN, hB⟩ := hrel
            rename World => wo
            have HB := Lib.hid hB
            have Hl7 := Lib.hid (Hl6.out.ext hB)
            by_cases hlt : k < R.length
            · obtain ⟨rb, ro, ra, rc, rfl, hrb, q0, q1, hqf, hqc, hqm, hqa⟩ := (Hr6.out.ext hB).row k hlt
              have hir : (k : Int) < (R.length : Int) := by omega
              have hmem : R[k] ∈ R := List.getElem_mem hlt
              have hcr := Hcan.out.2 R[k] hmem
              have hsr := Hsum.out R[k] hmem
              have hal := HRa.out R[k] hmem
              have hrp : ∀ t v, (t, v) ∈ R[k].2 → v = wt l R[k].1 t ∧ 0 < v := fun t v h => (Hrep.out R[k].1 t v).1 ⟨R[k], hmem, rfl, h⟩
              have hstep : arcsN (R.take (k + 1)) = arcsN (R.take k) + R[k].2.length := by
                unfold arcsN
                rw [List.take_succ_eq_append_getElem hlt, List.map_append, List.sum_append]
                simp
              have Hpw := Lib.hid (List.pairwise_iff_getElem.1 Hcan.out.1)
              have hlt2 := fun j (h : j + 1 = k) => Hpw.out j k (by omega) hlt (by omega)
              generalize R[k] = q at q0 q1 hqf hqc hqa hcr hsr hal hrp hstep hlt2
              obtain ⟨f, arcs⟩ := q
              simp only at q0 q1 hqf hqc hqa hcr hsr hal hrp hstep hlt2
              have HMay := Lib.hid (fun (W : World) (hW : Below wo.heap.size wo W) => rmay_any arcs ra rc _ W (by omega) (hqa.ext hW) hcr.2.2 hcr.2.1 hsr)
              have hap : 0 < arcs.length := List.length_pos_iff.2 hcr.1
              have hne : ((arcs.length : Int) == 0) = false := by rw [beq_eq_false_iff_ne]; omega
              have Hrp := Lib.hid hrp
              have Hstep := Lib.hid hstep
              have Hqa := Lib.hid hqa
              clear hcr hsr hrp hstep hqa hmem hB
              rcases Nat.eq_zero_or_pos k with hk0 | hk0
              · have hko : decide ((0 : Int) < (k : Int)) = false := decide_eq_false (by omega)
                have hko2 : decide (0 < k) = false := decide_eq_false (by omega)
                clear hlt2 hk0
                go_wp2_with fail
                go_quiet ((go_at_call 28; exact Calls.quiet_of (HMay.out _ (ext_drewN _ _))))
                go_wp2_with fail
                go_loopw [9, 11] (fun a i wr => s4I arcs.length (arcsN (R.take (k))) wo a i wr) (fun _ i _ => arcs.length - (intOf i).toNat)
                case atStart => exact ⟨0, _, by omega, rfl, by go_num, rfl⟩
                case round =>
                  obtain ⟨j4, m4, hj4, rfl, rfl, rfl⟩ := hrel
                  by_cases hlt4 : j4 < arcs.length
                  · obtain ⟨ab, aoff, rfl, hab4, ac0, ac1, hoka⟩ := Hqa.out.arc j4 hlt4
                    have hir4 : (j4 : Int) < (arcs.length : Int) := by omega
                    have hrp4 := Hrp.out arcs[j4].1 arcs[j4].2 (List.getElem_mem hlt4)
                    generalize arcs[j4] = av at ac0 ac1 hoka hrp4
                    obtain ⟨t, v⟩ := av
                    simp only at ac0 ac1 hrp4
                    have hv : v < 4294967296 := hoka.2
                    have Hv := Lib.hid hrp4.1
                    clear hoka hrp4
                    generalize arcsN (R.take (k)) = AN at hAN ⊢
                    go_wp2_with fail
                    go_loopw [12, 13] (fun s i wr => s5I l f t wo s i wr) (fun _ i _ => l.length - (intOf i).toNat)
                    case atStart => exact ⟨0, m4, by omega, rfl, by simp [wt], rfl⟩
                    case round =>
                      obtain ⟨j5, m5, hj5, rfl, rfl, rfl⟩ := hrel
                      have hb5 := wt_take_le l (j5 + 1) f t
                      have hve := Hv.out
                      by_cases hlt5 : j5 < l.length
                      · obtain ⟨eb, eo, rfl, heb, ec0, ec1, ec2, hoke⟩ := Hl7.out.edgeM j5 hlt5
                        have hir5 : (j5 : Int) < (l.length : Int) := by omega
                        have hst := wt_take l j5 hlt5 f t
                        generalize l[j5] = y at ec0 ec1 ec2 hoke hst
                        obtain ⟨y0, y1, y2⟩ := y
                        simp only at ec0 ec1 ec2 hst
                        generalize wt (l.take j5) f t = S at hst ⊢
                        have hyb : y2 < 4294967296 := hoke.2.2
                        by_cases hf5 : y0 = f
                        · have hq1 : ((y0 : Int) == (f : Int)) = true := by simp [hf5]
                          by_cases ht5 : y1 = t
                          · have hq2 : ((y1 : Int) == (t : Int)) = true := by simp [ht5]
                            rw [if_pos ⟨hf5, ht5⟩] at hst
                            have hSb : S + y2 ≤ 4294967295 := by omega
                            have Hst := Lib.hid hst
                            clear hst hb5 hve hf5 ht5 hoke
                            go_wp2_with fail
                            go_quiet (fail)
                            go_wp2_with fail
                            go_roundw
                            case rel => exact ⟨j5 + 1, _, by omega, by go_num, by rw [Hst.out]; go_num, rfl⟩
                            case measure => simp [intOf]; omega
                          · have hq2 : ((y1 : Int) == (t : Int)) = false := by rw [beq_eq_false_iff_ne]; omega
                            rw [if_neg (fun h => ht5 h.2)] at hst
                            have Hst := Lib.hid hst
                            clear hst hb5 hve hf5 ht5 hoke
                            go_wp2_with fail
                            go_quiet (fail)
                            go_wp2_with fail
                            go_roundw
                            case rel => exact ⟨j5 + 1, _, by omega, by go_num, by rw [Hst.out]; rfl, rfl⟩
                            case measure => simp [intOf]; omega
                        · have hq1 : ((y0 : Int) == (f : Int)) = false := by rw [beq_eq_false_iff_ne]; omega
                          rw [if_neg (fun h => hf5 h.1)] at hst
                          have Hst := Lib.hid hst
                          clear hst hb5 hve hf5 hoke
                          go_wp2_with fail
                          go_quiet (fail)
                          go_wp2_with fail
                          go_roundw
                          case rel => exact ⟨j5 + 1, _, by omega, by go_num, by rw [Hst.out]; rfl, rfl⟩
                          case measure => simp [intOf]; omega
                      · obtain rfl : j5 = l.length := by omega
                        rw [List.take_length, ← hve]
                        have hvv : ((v : Int) != (v : Int)) = false := by simp
                        clear hb5 hve
                        go_wp2_with fail
                        go_roundw
                        case rel => exact ⟨j4 + 1, m5, by omega, by go_num, by go_num, rfl⟩
                        case measure => simp [intOf]; omega
                  · obtain rfl : j4 = arcs.length := by omega
                    have Hst := Lib.hid (Hstep.out)
                    go_wp2_with fail
                    go_roundw
                    case rel => exact ⟨k + 1, by omega, by go_num, by rw [Hst.out], by rw [Hst.out]; omega, below_drewN HB.out _⟩
                    case measure => simp [intOf]; omega
              · obtain ⟨j, rfl⟩ : ∃ j, k = j + 1 := ⟨k - 1, by omega⟩
                clear hk0
                obtain ⟨rb2, ro2, ra2, rc2, hab, hrb2, p0, p1, _, _, _, _⟩ := (Hr6.out.ext HB.out).row j (by omega)
                cases hab
                have hf2 := hlt2 j rfl
                clear hlt2
                have hj0 : (0 : Int) ≤ (j : Int) := by omega
                have hd3 : decide ((0 : Int) < (j : Int) + 1) = true := decide_eq_true (by omega)
                have hjl : (j : Int) < (R.length : Int) := by omega
                generalize R[j] = z at p0 p1 hf2
                obtain ⟨z0, z1⟩ := z
                simp only at p0 p1 hf2
                have hd4 : decide ((f : Int) ≤ (z0 : Int)) = false := decide_eq_false (by omega)
                have hd4' : decide (f ≤ z0) = false := decide_eq_false (by omega)
                go_wp2_with fail
                go_quiet ((go_at_call 28; exact Calls.quiet_of (HMay.out _ (ext_drewN _ _))))
                go_wp2_with fail
                go_loopw [9, 11] (fun a i wr => s4I arcs.length (arcsN (R.take (j + 1))) wo a i wr) (fun _ i _ => arcs.length - (intOf i).toNat)
                case atStart => exact ⟨0, _, by omega, rfl, by go_num, rfl⟩
                case round =>
                  obtain ⟨j4, m4, hj4, rfl, rfl, rfl⟩ := hrel
                  by_cases hlt4 : j4 < arcs.length
                  · obtain ⟨ab, aoff, rfl, hab4, ac0, ac1, hoka⟩ := Hqa.out.arc j4 hlt4
                    have hir4 : (j4 : Int) < (arcs.length : Int) := by omega
                    have hrp4 := Hrp.out arcs[j4].1 arcs[j4].2 (List.getElem_mem hlt4)
                    generalize arcs[j4] = av at ac0 ac1 hoka hrp4
                    obtain ⟨t, v⟩ := av
                    simp only at ac0 ac1 hrp4
                    have hv : v < 4294967296 := hoka.2
                    have Hv := Lib.hid hrp4.1
                    clear hoka hrp4
                    generalize arcsN (R.take (j + 1)) = AN at hAN ⊢
                    go_wp2_with fail
                    go_loopw [12, 13] (fun s i wr => s5I l f t wo s i wr) (fun _ i _ => l.length - (intOf i).toNat)
                    case atStart => exact ⟨0, m4, by omega, rfl, by simp [wt], rfl⟩
                    case round =>
                      obtain ⟨j5, m5, hj5, rfl, rfl, rfl⟩ := hrel
                      have hb5 := wt_take_le l (j5 + 1) f t
                      have hve := Hv.out
                      by_cases hlt5 : j5 < l.length
                      · obtain ⟨eb, eo, rfl, heb, ec0, ec1, ec2, hoke⟩ := Hl7.out.edgeM j5 hlt5
                        have hir5 : (j5 : Int) < (l.length : Int) := by omega
                        have hst := wt_take l j5 hlt5 f t
                        generalize l[j5] = y at ec0 ec1 ec2 hoke hst
                        obtain ⟨y0, y1, y2⟩ := y
                        simp only at ec0 ec1 ec2 hst
                        generalize wt (l.take j5) f t = S at hst ⊢
                        have hyb : y2 < 4294967296 := hoke.2.2
                        by_cases hf5 : y0 = f
                        · have hq1 : ((y0 : Int) == (f : Int)) = true := by simp [hf5]
                          by_cases ht5 : y1 = t
                          · have hq2 : ((y1 : Int) == (t : Int)) = true := by simp [ht5]
                            rw [if_pos ⟨hf5, ht5⟩] at hst
                            have hSb : S + y2 ≤ 4294967295 := by omega
                            have Hst := Lib.hid hst
                            clear hst hb5 hve hf5 ht5 hoke
                            go_wp2_with fail
                            go_quiet (fail)
                            go_wp2_with fail
                            go_roundw
                            case rel => exact ⟨j5 + 1, _, by omega, by go_num, by rw [Hst.out]; go_num, rfl⟩
                            case measure => simp [intOf]; omega
                          · have hq2 : ((y1 : Int) == (t : Int)) = false := by rw [beq_eq_false_iff_ne]; omega
                            rw [if_neg (fun h => ht5 h.2)] at hst
                            have Hst := Lib.hid hst
                            clear hst hb5 hve hf5 ht5 hoke
                            go_wp2_with fail
                            go_quiet (fail)
                            go_wp2_with fail
                            go_roundw
                            case rel => exact ⟨j5 + 1, _, by omega, by go_num, by rw [Hst.out]; rfl, rfl⟩
                            case measure => simp [intOf]; omega
                        · have hq1 : ((y0 : Int) == (f : Int)) = false := by rw [beq_eq_false_iff_ne]; omega
                          rw [if_neg (fun h => hf5 h.1)] at hst
                          have Hst := Lib.hid hst
                          clear hst hb5 hve hf5 hoke
                          go_wp2_with fail
                          go_quiet (fail)
                          go_wp2_with fail
                          go_roundw
                          case rel => exact ⟨j5 + 1, _, by omega, by go_num, by rw [Hst.out]; rfl, rfl⟩
                          case measure => simp [intOf]; omega
                      · obtain rfl : j5 = l.length := by omega
                        rw [List.take_length, ← hve]
                        have hvv : ((v : Int) != (v : Int)) = false := by simp
                        clear hb5 hve
                        go_wp2_with fail
                        go_roundw
                        case rel => exact ⟨j4 + 1, m5, by omega, by go_num, by go_num, rfl⟩
                        case measure => simp [intOf]; omega
                  · obtain rfl : j4 = arcs.length := by omega
                    have Hst := Lib.hid (Hstep.out)
                    go_wp2_with fail
                    go_roundw
                    case rel => exact ⟨j + 1 + 1, by omega, by go_num, by rw [Hst.out], by rw [Hst.out]; omega, below_drewN HB.out _⟩
                    case measure => simp [intOf]; omega
            · obtain rfl : k = R.length := by omega
              rw [List.take_length]
              have hpa := Hpa.out
              have Hpe := Lib.hid (show ((arcsN R : Int) == ((pairsU l).length : Int)) = true by rw [beq_iff_eq, hpa])
              have hAN2 : arcsN R ≤ 1000000 := by rw [List.take_length] at hAN; omega
              clear hAN hpa hB
              generalize arcsN R = AN at Hpe hAN2 ⊢
              go_wp2_with fail
              go_loopw [14, 15] (fun p i wr => s6I l wo p i wr) (fun _ i _ => l.length - (intOf i).toNat)
              case atStart => exact ⟨0, 0, by omega, rfl, by simp [pairsU, pairsOf], rfl⟩
              case round =>
                obtain ⟨k, m6, hk6, rfl, rfl, rfl⟩ := hrel
                by_cases hlt6 : k < l.length
                · have hpl := pairsU_le l k hk6
                  have hpt := pairsU_take l k hlt6
                  obtain ⟨eb, eo, rfl, heb, lc0, lc1, lc2, hoke⟩ := Hl7.out.edgeM k hlt6
                  have hir6 : (k : Int) < (l.length : Int) := by omega
                  obtain ⟨x, hx⟩ : ∃ x, l[k] = x := ⟨_, rfl⟩
                  rw [hx] at lc0 lc1 lc2 hoke hpt
                  have Hx := Lib.hid hx
                  clear hx
                  obtain ⟨x0, x1, x2⟩ := x
                  simp only at lc0 lc1 lc2
                  generalize (pairsU (l.take k)).length = PN at hpl hpt ⊢
                  have Hpt := Lib.hid hpt
                  clear hpt hoke
                  go_wp2_with fail
                  go_loopw [16, 17] (fun f i wr => s7I l (x0, x1, x2) k wo f i wr) (fun _ i _ => k - (intOf i).toNat)
                  case atStart => exact ⟨0, m6, by omega, rfl, by simp [notInB], rfl⟩
                  case round =>
                    obtain ⟨j, m7, hj7, rfl, rfl, rfl⟩ := hrel
                    by_cases hlt7 : j < k
                    · have hjl : j < l.length := by omega
                      obtain ⟨b', o', hab, hb', jc0, jc1, jc2, hokj⟩ := Hl7.out.edgeM j hjl
                      cases hab
                      have hjr : (j : Int) < (l.length : Int) := by omega
                      have hst := notInB_take l (x0, x1, x2) j hjl
                      generalize l[j] = y at jc0 jc1 jc2 hokj hst
                      obtain ⟨y0, y1, y2⟩ := y
                      simp only at jc0 jc1 jc2 hst
                      generalize notInB (l.take j) (x0, x1, x2) = F at hst ⊢
                      clear hokj
                      cases F
                      · have Hst := Lib.hid hst
                        clear hst
                        go_wp2_with fail
                        go_quiet (fail)
                        go_wp2_with fail
                        go_roundw
                        case rel => exact ⟨j + 1, _, by omega, by go_num, by rw [Hst.out]; rfl, rfl⟩
                        case measure => simp [intOf]; omega
                      · by_cases hf : y0 = x0
                        · have hq1 : ((y0 : Int) != (x0 : Int)) = false := by simp [hf]
                          by_cases ht : y1 = x1
                          · have hq2 : ((y1 : Int) != (x1 : Int)) = false := by simp [ht]
                            have Hst := Lib.hid (hst.trans (show _ = false by simp [hf, ht]))
                            clear hst hf ht
                            go_wp2_with fail
                            go_quiet (fail)
                            go_wp2_with fail
                            go_roundw
                            case rel => exact ⟨j + 1, _, by omega, by go_num, by rw [Hst.out], rfl⟩
                            case measure => simp [intOf]; omega
                          · have hq2 : ((y1 : Int) != (x1 : Int)) = true := by rw [bne_iff_ne]; omega
                            have Hst := Lib.hid (hst.trans (show _ = true by simp [ht]))
                            clear hst hf ht
                            go_wp2_with fail
                            go_quiet (fail)
                            go_wp2_with fail
                            go_roundw
                            case rel => exact ⟨j + 1, _, by omega, by go_num, by rw [Hst.out], rfl⟩
                            case measure => simp [intOf]; omega
                        · have hq1 : ((y0 : Int) != (x0 : Int)) = true := by rw [bne_iff_ne]; omega
                          have Hst := Lib.hid (hst.trans (show _ = true by simp [hf]))
                          clear hst hf
                          go_wp2_with fail
                          go_quiet (fail)
                          go_wp2_with fail
                          go_roundw
                          case rel => exact ⟨j + 1, _, by omega, by go_num, by rw [Hst.out], rfl⟩
                          case measure => simp [intOf]; omega
                    · obtain rfl : j = k := by omega
                      generalize notInB (l.take j) (x0, x1, x2) = F at Hpt ⊢
                      cases F
                      · have Hpn := Lib.hid (Hpt.out.trans (show _ = PN by simp))
                        clear Hpt
                        go_wp2_with fail
                        go_roundw
                        case rel => exact ⟨j + 1, m7, by omega, by go_num, by rw [Hpn.out], rfl⟩
                        case measure => simp [intOf]; omega
                      · have Hpn := Lib.hid (Hpt.out.trans (show _ = PN + 1 by simp))
                        clear Hpt
                        go_wp2_with fail
                        go_roundw
                        case rel => exact ⟨j + 1, m7, by omega, by go_num, by rw [Hpn.out]; go_num, rfl⟩
                        case measure => simp [intOf]; omega
                · obtain rfl : k = l.length := by omega
                  rw [List.take_length]
                  have hpe := Hpe.out
                  go_wp2_with (go_at_call 14; refine (awake14_any _).mono ?_; rintro e wb ⟨rfl, hBb⟩; have HBb := Lib.hid hBb; clear hBb)
                  go_ret
                  exact ⟨rfl, HB6.out.trans ((HB.out.mono HB6.out.size).trans (((ext_drewN wo m6).mono (Nat.le_trans HB6.out.size HB.out.size)).trans (HBb.out.mono (by have h1 := HB6.out.size; have h2 := HB.out.size; simp; omega))))⟩
end Go.Proofs.Ytafbjkbdfdeacaa
