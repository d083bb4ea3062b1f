/- palmerlaw12.EdgePassed: the walk. -/
import Derived.Test.YtafbjkbdfdeacaaEdgeLaw1
import Derived.Test.YtafbjkbdfdeacaaEdgePrintR
import Derived.Test.YtafbjkbdfdeacaaEdgePassPlain
namespace Go.Proofs.Ytafbjkbdfdeacaa
set_option linter.unusedSimpArgs false
set_option linter.unusedVariables false
open Go.RowKit

def passI (l : List EdgeD) (ns : List (List UInt8)) (w : World) (o n i : Value) (wr : World) : Prop :=
  ∃ k : Nat, k ≤ l.length + ns.length ∧ (k ≤ l.length ∨ k ≤ ns.length) ∧ i = .int .i64 (k : Nat) ∧ n = .int .i64 ((textL l ns k).length : Nat) ∧ (∀ j m, j < k → ns[j]? = some m → m.length ≤ 100) ∧ prE w (textB l ns k) o wr
def passN (P n : List UInt8) (w : World) (o i : Value) (wr : World) : Prop := ∃ j : Nat, j ≤ n.length ∧ i = .int .i64 (j : Nat) ∧ prE w (P ++ [32, 9, 35] ++ clean (n.take j)) o wr
theorem prE_app {w W W' : World} {P Q : List UInt8} {ao' : Option Addr} {cap' : Nat} {g g' : Option Nat} (hg : ∀ k, g = some k → w.heap.size ≤ k) (hB : Below w.heap.size w W) (ho : Own W' ao' cap' g' 5 1 (P.length + Q.length) (byteVals P ++ byteVals Q)) (hg' : g' = g ∨ g' = some W.heap.size) (hon : Only (fun k => g = some k) W W') :
    prE w (P ++ Q) (.slice ao' (P.length + Q.length) cap') W' := by
  refine ⟨ao', cap', g', by rw [List.length_append], by rw [List.length_append]; simpa [byteVals] using ho, fun k h => ?_, hB.trans (hon.below hB.size (fun k hk e => by have := hg k e; omega))⟩
  rcases hg' with rfl | rfl
  · exact hg k h
  · cases h; exact hB.size

theorem prE_blocks {w W W' : World} {g g' : Option Nat} (hg : ∀ k, g = some k → w.heap.size ≤ k) (hB : Below w.heap.size w W) (hg' : g' = g ∨ g' = some W.heap.size) (hon : Only (fun k => g = some k) W W') : (∀ k, g' = some k → w.heap.size ≤ k) ∧ Below w.heap.size w W' := by
  refine ⟨fun k h => ?_, hB.trans (hon.below hB.size (fun k hk e => by have := hg k e; omega))⟩
  rcases hg' with rfl | rfl
  · exact hg k h
  · cases h; exact hB.size
set_option maxRecDepth 100000 in
set_option maxHeartbeats 3200000 in
theorem edgePassed_walk (l : List EdgeD) (ns : List (List UInt8)) (bad : Bool) (ao no : Option Addr) (cap nc : Nat) (w : World) (hrd : RdS edgeRep (fun b => b < w.heap.size) w ao l) (hrn : Rd w no ns.length (strCells ns)) :
    Calls Try.prog 10 #[.slice ao l.length cap, .slice no ns.length nc, .bool bad] w fun e w' => e = .returned (.bool true) ∧ Below w.heap.size w w' := by
  by_cases hl : 100 < l.length
  · have hd : decide ((100 : Int) < l.length) = true := by simp; omega
    clear hrd hrn
    go_enter Try.func10, Try.ntmps10
    go_wp2_with (go_at_call 29; refine (awake12_any _).mono ?_; rintro e w1 ⟨rfl, hB1⟩)
    go_ret
    exact ⟨rfl, hB1⟩
  have hd : decide ((100 : Int) < l.length) = false := by simp; omega
  by_cases hln : 100 < ns.length
  · have hd2 : decide ((100 : Int) < ns.length) = true := by simp; omega
    clear hrd hrn
    go_enter Try.func10, Try.ntmps10
    go_wp2_with (go_at_call 29; refine (awake12_any _).mono ?_; rintro e w1 ⟨rfl, hB1⟩)
    go_ret
    exact ⟨rfl, hB1⟩
  have hd2 : decide ((100 : Int) < ns.length) = false := by simp; omega
  have hMay := emay_any l ao cap _ w (by omega) hrd
  by_cases hm : ∀ x ∈ l, mayE x
  · rw [allMay_yes hm] at hMay
    have hok : ∀ x ∈ l, okE x ∧ mayE x := fun x hx => by
      obtain ⟨j, hj, rfl⟩ := List.mem_iff_getElem.1 hx
      obtain ⟨_, _, _, _, _, _, _, h⟩ := hrd.edge j hj
      exact ⟨h, hm _ hx⟩
    have kc := fun (w : World) (C : Array Value) (n c : Nat) => Lib.run_convert_bytes_const (P := Try.prog) w 25 5 C n c Try.underlying25 Try.underlying5
    have hE := bytesElem
    have hlen := textB_len l ns (fun x hx => (hok x hx).1)
    have hreads := readE_textL l ns hok
    have HMay := Lib.hid hMay
    have Hok := Lib.hid hok
    have Hlen := Lib.hid hlen
    have Hreads := Lib.hid hreads
    have Hrd := Lib.hid hrd
    have Hrn := Lib.hid hrn
    clear hMay hok hlen hreads hm hrd hrn
    go_enter Try.func10, Try.ntmps10
    go_wp2_with (go_at_call 35; refine HMay.out.mono ?_; rintro e w1 ⟨rfl, rfl⟩)
    go_loopw [7, 8, 9] (fun o n i wr => passI l ns w1 o n i wr) (fun _ _ i _ => l.length + ns.length + 1 - (intOf i).toNat)
    case atStart => exact ⟨0, by omega, .inl (by omega), rfl, rfl, fun j m h => by omega, some ⟨w1.heap.size, 0, none⟩, 0, some w1.heap.size, rfl, Own.emptyAt w1 5 1 w1.heap.size rfl, (fun k h => by cases h; exact Nat.le_refl _), ext_alloc w1 _⟩
    case round =>
      obtain ⟨k, hk, hkk, rfl, rfl, hsm, ao', cap', g, rfl, ho, hg, hB⟩ := hrel
      obtain ⟨hb1, hb2⟩ := Hlen.out k hsm
      have htB : textB l ns (k + 1) = textB l ns k ++ pieceB l ns k := rfl
      have htL : (textL l ns (k + 1)).length = (textL l ns k).length + (pieceL l ns k).length := by show (textL l ns k ++ pieceL l ns k).length = _; rw [List.length_append]
      have hpB : pieceB l ns k = (match ns[k]? with | some n => noteB n | none => []) ++ (match l[k]? with | some x => [9, 32] ++ lineE x | none => []) := rfl
      have hpL : pieceL l ns k = (match ns[k]? with | some n => noteL n | none => []) ++ (match l[k]? with | some x => [[9, 32] ++ bodyE x] | none => []) := rfl
      have hfinB := lines_textB l ns k
      have hrk := Hreads.out k
      have hs := hB.size
      have hk200 : k ≤ 100 := by omega
      have Hg := Lib.hid hg
      have HB := Lib.hid hB
      have Ho := Lib.hid ho
      have Hsm := Lib.hid hsm
      have Hfin := Lib.hid hfinB
      have Hrk := Lib.hid hrk
      clear hg hB ho hsm hfinB hrk
      generalize hPe : textB l ns k = P at Ho htB hb1 Hfin ⊢
      generalize hLe : textL l ns k = TL at htL hb2 Hfin Hrk ⊢
      generalize pieceB l ns k = pB at htB hpB
      generalize pieceL l ns k = pL at htL hpL
      have HtB := Lib.hid htB
      have HtL := Lib.hid htL
      obtain ⟨q, hq⟩ : ∃ q, TL.length = q := ⟨_, rfl⟩
      rw [hq] at htL hb2 ⊢
      have HtL := Lib.hid htL
      have Hq := Lib.hid hq
      clear htB htL hPe hLe hq
      by_cases hkN : k < ns.length
      · have hN : decide ((k : Int) < (ns.length : Int)) = true := decide_eq_true (by omega)
        have hN' : decide (k < ns.length) = true := decide_eq_true hkN
        have hirn : (k : Int) < (ns.length : Int) := by omega
        obtain ⟨bn, on, rfl, hbn, hcn⟩ := Hrn.out.pos (by omega)
        have hcn1 := hcn k hkN
        have hnk : ns[k]? = some ns[k] := List.getElem?_eq_getElem hkN
        simp only [strCells, List.getElem?_map, hnk, Option.map_some] at hcn1
        rw [hnk] at hpB hpL
        have Hcn := Lib.hid hcn1
        have hcnw := ((bcell HB.out).1 bn (on + k) hbn).trans hcn1
        generalize hne : ns[k] = n at hnk hpB hpL Hcn hcnw
        have hSz := bs_size n
        have hSg : ∀ (j : Nat) (h : j < (bs n).size), (bs n)[j]? = n[j]? := fun j h => by
          have h2 : j < n.length := by rw [← bs_size]; exact h
          rw [List.getElem?_eq_getElem h2]
          simp [bs_get n j h, h]
        generalize bs n = S at Hcn hcnw hSz hSg
        have Hnk := Lib.hid hnk
        have HSg := Lib.hid hSg
        clear hcn hcn1 hnk hne hSg
        by_cases hbig : 100 < n.length
        · have hb1 : decide ((100 : Int) < (S.size : Int)) = true := decide_eq_true (by omega)
          have hb1' : decide (100 < S.size) = true := decide_eq_true (by omega)
          rcases Nat.lt_or_ge k l.length with hkL | hkL
          · have hL : decide ((k : Int) < (l.length : Int)) = true := decide_eq_true (by omega)
            go_wp2_with (go_at_call 29; refine (awake12_any _).mono ?_; rintro e w9 ⟨rfl, hB9⟩)
            go_ret
            exact ⟨rfl, ext_trans HB.out hB9⟩
          · have hL : decide ((k : Int) < (l.length : Int)) = false := decide_eq_false (by omega)
            go_wp2_with (go_at_call 29; refine (awake12_any _).mono ?_; rintro e w9 ⟨rfl, hB9⟩)
            go_ret
            exact ⟨rfl, ext_trans HB.out hB9⟩
        · have hbs : decide ((100 : Int) < (S.size : Int)) = false := decide_eq_false (by omega)
          have hbs' : decide (100 < S.size) = false := decide_eq_false (by omega)
          have HkN := Lib.hid hkN
          have Hbig := Lib.hid hbig
          have hclen : (clean n).length ≤ 100 := by have := List.length_filter_le (fun c => !(c == 10)) n; unfold clean; omega
          have HpB0 := Lib.hid hpB
          have HpL0 := Lib.hid hpL
          have HSz := Lib.hid hSz
          clear hpB hpL hSz hbig hkN
          rcases Nat.lt_or_ge k l.length with hkL | hkL
          · as_aux_lemma =>
            have hL : decide ((k : Int) < (l.length : Int)) = true := decide_eq_true (by omega)
            have hL' : decide (k < l.length) = true := decide_eq_true hkL
            have HkL := Lib.hid hkL
            go_wp2_with (at_builtin; refine wpList_app rfl (.tmp 52) (.tmp 54) 25 25 rfl hE (Ho.out.alloc _) rfl rfl ((rd_const wr _ _ _ [32, 9, 35] rfl).src Try.underlying25 _ (byteVals_one _)) (by simp [maxLen]; omega) (by simp; omega) ?_; intro ao4 cap4 g4 W4 ho4 hg4 hon4; have HP4 := Lib.hid (prE_app Hg.out (HB.out.alloc hs _) ho4 hg4 hon4); clear ho4 hg4 hon4)
            go_loopw [7, 10] (fun o i wr2 => passN P n w1 o i wr2) (fun _ i _ => n.length - (intOf i).toNat)
            case atStart =>
              have e0 : P ++ [32, 9, 35] ++ clean (n.take 0) = P ++ [32, 9, 35] := by simp [clean]
              exact ⟨0, by omega, rfl, by rw [e0]; exact HP4.out⟩
            case round =>
              clear HP4
              obtain ⟨j, hj, rfl, ao5, cap5, g5, rfl, ho5, hg5, hB5⟩ := hrel
              have hcj := ((bcell hB5).1 bn (on + k) hbn).trans Hcn.out
              have hs5 := hB5.size
              have Ho5 := Lib.hid ho5
              have Hg5 := Lib.hid hg5
              have HB5 := Lib.hid hB5
              clear ho5 hg5 hB5
              by_cases hjl : j < n.length
              · have hj100 : j ≤ 100 := by have := Hbig.out; omega
                have hjS' : j < S.size := by rw [HSz.out]; exact hjl
                have hjS : (j : Int) < (S.size : Int) := by omega
                have hget : S[j]'hjS' = n[j] := by
                  have h := HSg.out j hjS'
                  rw [List.getElem?_eq_getElem hjl] at h
                  simpa [hjS'] using h
                have hct : clean (n.take (j + 1)) = clean (n.take j) ++ (if n[j] == 10 then [] else [n[j]]) := by
                  unfold clean
                  rw [List.take_succ_eq_append_getElem hjl, List.filter_append]
                  congr 1
                  by_cases h : n[j] = 10 <;> simp [h]
                have hcl : (clean (n.take j)).length ≤ 100 := by
                  have h1 := List.length_filter_le (fun c => !(c == 10)) (n.take j)
                  have h2 : (n.take j).length ≤ j := by rw [List.length_take]; omega
                  have := Hbig.out
                  unfold clean; omega
                generalize n[j] = c at hget hct
                have hne : ((S[j].toNat : Int) != 10) = !(c == 10) := by
                  rw [hget]
                  by_cases hm : c = 10
                  · subst hm; rfl
                  · rw [beq_eq_false_iff_ne.2 hm]
                    simp only [Bool.not_false, bne_iff_ne, ne_eq]
                    intro e
                    exact hm (by rw [← UInt8.toNat_inj]; show c.toNat = 10; omega)
                obtain ⟨Q, hQ⟩ : ∃ Q, P ++ [32, 9, 35] ++ clean (n.take j) = Q := ⟨_, rfl⟩
                have hQl := congrArg List.length hQ
                simp only [List.length_append, List.length_cons, List.length_nil] at hQl
                have hQle : Q.length ≤ 20000 := by omega
                have Ho6 := Ho5.out
                rw [hQ] at Ho6
                have HO6 := Lib.hid Ho6
                rw [hQ]
                by_cases hc : c = 10
                · have hne2 : ((S[j].toNat : Int) != 10) = false := by rw [hne, hc]; rfl
                  have hT : P ++ [32, 9, 35] ++ clean (n.take (j + 1)) = Q := by rw [hct, hc, ← hQ]; simp
                  have HT := Lib.hid hT
                  clear hne hc hct hT hQ hQl Ho6 Ho5 hcl hget
                  go_wp2_with fail
                  exact ⟨⟨j + 1, by omega, by go_num, by rw [HT.out]; exact ⟨ao5, cap5, g5, rfl, HO6.out, Hg5.out, HB5.out⟩⟩, by simp [intOf]; omega⟩
                · have hne2 : ((S[j].toNat : Int) != 10) = true := by rw [hne, beq_eq_false_iff_ne.2 hc]; rfl
                  have hT : P ++ [32, 9, 35] ++ clean (n.take (j + 1)) = Q ++ [c] := by rw [hct, beq_eq_false_iff_ne.2 hc, ← hQ]; simp
                  have HT := Lib.hid hT
                  have Hget := Lib.hid hget
                  clear hne hc hct hT hQ hQl Ho6 Ho5 hcl hget
                  go_wp2_with (at_builtin; refine wpList_app rfl (.tmp 72) (.tmp 79) 25 25 rfl hE (HO6.out.alloc _) rfl rfl (srcOne Try.underlying25 _ _ _ _ rfl) (by simp [maxLen]; omega) (by omega) ?_; intro ao7 cap7 g7 W7 ho7 hg7 hon7; have Ho7 := Lib.hid ho7; have Hg7 := Lib.hid hg7; have Hon7 := Lib.hid hon7; clear ho7 hg7 hon7)
                  have hx : prE w1 (Q ++ [c]) (.slice ao7 (Q.length + [c].length) cap7) W7 := prE_app (Q := [c]) Hg5.out (HB5.out.alloc hs5 _) (by have h := Ho7.out; rw [Hget.out] at h; exact h) Hg7.out Hon7.out
                  exact ⟨⟨j + 1, by omega, by go_num, by rw [HT.out]; exact hx⟩, by simp [intOf]; omega⟩
              · obtain rfl : j = n.length := by omega
                rw [List.take_length] at Ho5 ⊢
                obtain ⟨Q, hQ⟩ : ∃ Q, P ++ [32, 9, 35] ++ clean n = Q := ⟨_, rfl⟩
                have hQl := congrArg List.length hQ
                simp only [List.length_append, List.length_cons, List.length_nil] at hQl
                have hQle : Q.length ≤ 20000 := by omega
                have Ho6 := Ho5.out
                rw [hQ] at Ho6
                have HO6 := Lib.hid Ho6
                have HQ := Lib.hid hQ
                rw [hQ]
                have hSe : ¬ (n.length : Int) < (S.size : Int) := by have := HSz.out; omega
                have hSd : decide ((n.length : Int) < (S.size : Int)) = false := decide_eq_false hSe
                have hSd' : decide (n.length < S.size) = false := decide_eq_false (by have := HSz.out; omega)
                clear hQ hQl Ho6 Ho5 hjl hj
                obtain ⟨b, off, rfl, hb, hc0', hc1', hc2', hokx⟩ := Hrd.out.edge k HkL.out
                have hc0w := hc0'
                have hlk : l[k]? = some l[k] := List.getElem?_eq_getElem HkL.out
                have hpB := HpB0.out
                have hpL := HpL0.out
                rw [hlk] at hpB hpL
                generalize l[k] = x at hc0' hc1' hc2' hokx hpB hpL
                obtain ⟨x0, x1, x2⟩ := x
                simp only at hc0' hc1' hc2'
                have hir : (k : Int) < (l.length : Int) := by have := HkL.out; omega
                have hLn := fun W => eline_any x0 x1 x2 hokx.1 hokx.2.1 hokx.2.2 W
                have hll := lineE_len (x0, x1, x2) hokx
                have hS := fun W => conv_sb ([9, 32] ++ lineE (x0, x1, x2)) W
                have hadd := str_add [9, 32] (lineE (x0, x1, x2)) (by simp; omega)
                rw [show bs [9, 32] = ⟨#[9, 32]⟩ from rfl] at hadd
                have HpB := Lib.hid (show pB = noteB n ++ ([9, 32] ++ lineE (x0, x1, x2)) by rw [hpB])
                have HpL := Lib.hid (show pL.length = 3 by rw [hpL]; simp [noteL])
                have hQl : ([9, 32] ++ lineE (x0, x1, x2)).length ≤ 35 := by simp; omega
                generalize hLe : bs (lineE (x0, x1, x2)) = SL at hLn hadd
                generalize [9, 32] ++ lineE (x0, x1, x2) = E at hS hadd HpB hQl
                have HLn := Lib.hid hLn
                have HS := Lib.hid hS
                have hk2 := fun (W : World) (a : Option Addr) (c : Nat) (h : Rd W a E.length (byteVals E)) => h.src Try.underlying25 c (byteVals_one E)
                have Hk2 := Lib.hid hk2
                have HC0 := Lib.hid hc0'
                have HC1 := Lib.hid hc1'
                have HC2 := Lib.hid hc2'
                clear hLn hS hk2 hpB hpL hLe hll hokx hlk hc0' hc1' hc2' hc0w
                go_wp2_with (first
                  | (at_builtin; refine wpList_app rfl (.tmp 81) (.tmp 83) 25 25 rfl hE (HO6.out.alloc _) rfl rfl ((rd_const _ _ _ _ [10, 32, 10] rfl).src Try.underlying25 _ (byteVals_one _)) (by simp [maxLen]; omega) (by simp; omega) ?_; intro ao8 cap8 g8 W8 ho8 hg8 hon8; obtain ⟨hG8, hB8⟩ := prE_blocks Hg5.out (HB5.out.alloc hs5 _) hg8 hon8; have hs8 := hB8.size; have hc0 := ((bcell hB8).1 _ _ hb).trans HC0.out; have hc1 := ((bcell hB8).1 _ _ hb).trans HC1.out; have hc2 := ((bcell hB8).1 _ _ hb).trans HC2.out; have Ho8 := Lib.hid ho8; have HG8 := Lib.hid hG8; have HB8 := Lib.hid hB8; clear ho8 hg8 hon8 hG8 hB8)
                  | (go_at_call 36; refine (HLn.out _).mono ?_; rintro e w2 ⟨rfl, hB2⟩; obtain ⟨cc, W', hcv, hBv, hRv⟩ := HS.out w2; have HB2 := Lib.hid (hB2.trans (hBv.mono hB2.size)); have HRv := Lib.hid hRv; clear hB2 hBv hRv)
                  | (at_builtin; refine wpList_app rfl (.tmp 91) (.tmp 98) 25 25 rfl hE (Ho8.out.ext HB2.out) rfl rfl (Hk2.out _ _ _ HRv.out) (by simp [maxLen]; omega) (by simp; omega) ?_; intro ao9 cap9 g9 W9 ho9 hg9 hon9; obtain ⟨hG9, hB9⟩ := prE_blocks HG8.out (HB8.out.trans (HB2.out.mono hs8)) hg9 hon9; have Ho9 := Lib.hid ho9; have HG9 := Lib.hid hG9; have HB9 := Lib.hid hB9; clear ho9 hg9 hon9 hG9 hB9))
                have hkl := HkL.out
                have hT : textB l ns (k + 1) = Q ++ [10, 32, 10] ++ E := by rw [HtB.out, HpB.out, ← HQ.out, noteB]; simp
                have hTl : (Q ++ [10, 32, 10] ++ E).length = Q.length + 3 + E.length := by simp; omega
                refine ⟨⟨k + 1, by omega, .inl (by omega), by go_num, by rw [HtL.out, HpL.out]; go_num, fun j m hj hm => ?_, ao9, cap9, g9, by rw [hT, hTl], by rw [hT, hTl]; simpa [byteVals] using Ho9.out, HG9.out, HB9.out⟩, by simp [intOf]; omega⟩
                by_cases hjk : j < k
                · exact Hsm.out j m hjk hm
                · obtain rfl : j = k := by omega
                  rw [Hnk.out] at hm; cases hm
                  have := Hbig.out; omega
          · as_aux_lemma =>
            have hL : decide ((k : Int) < (l.length : Int)) = false := decide_eq_false (by omega)
            have hL' : decide (k < l.length) = false := decide_eq_false (by omega)
            have HkL := Lib.hid hkL
            go_wp2_with (at_builtin; refine wpList_app rfl (.tmp 52) (.tmp 54) 25 25 rfl hE (Ho.out.alloc _) rfl rfl ((rd_const wr _ _ _ [32, 9, 35] rfl).src Try.underlying25 _ (byteVals_one _)) (by simp [maxLen]; omega) (by simp; omega) ?_; intro ao4 cap4 g4 W4 ho4 hg4 hon4; have HP4 := Lib.hid (prE_app Hg.out (HB.out.alloc hs _) ho4 hg4 hon4); clear ho4 hg4 hon4)
            go_loopw [7, 10] (fun o i wr2 => passN P n w1 o i wr2) (fun _ i _ => n.length - (intOf i).toNat)
            case atStart =>
              have e0 : P ++ [32, 9, 35] ++ clean (n.take 0) = P ++ [32, 9, 35] := by simp [clean]
              exact ⟨0, by omega, rfl, by rw [e0]; exact HP4.out⟩
            case round =>
              clear HP4
              obtain ⟨j, hj, rfl, ao5, cap5, g5, rfl, ho5, hg5, hB5⟩ := hrel
              have hcj := ((bcell hB5).1 bn (on + k) hbn).trans Hcn.out
              have hs5 := hB5.size
              have Ho5 := Lib.hid ho5
              have Hg5 := Lib.hid hg5
              have HB5 := Lib.hid hB5
              clear ho5 hg5 hB5
              by_cases hjl : j < n.length
              · have hj100 : j ≤ 100 := by have := Hbig.out; omega
                have hjS' : j < S.size := by rw [HSz.out]; exact hjl
                have hjS : (j : Int) < (S.size : Int) := by omega
                have hget : S[j]'hjS' = n[j] := by
                  have h := HSg.out j hjS'
                  rw [List.getElem?_eq_getElem hjl] at h
                  simpa [hjS'] using h
                have hct : clean (n.take (j + 1)) = clean (n.take j) ++ (if n[j] == 10 then [] else [n[j]]) := by
                  unfold clean
                  rw [List.take_succ_eq_append_getElem hjl, List.filter_append]
                  congr 1
                  by_cases h : n[j] = 10 <;> simp [h]
                have hcl : (clean (n.take j)).length ≤ 100 := by
                  have h1 := List.length_filter_le (fun c => !(c == 10)) (n.take j)
                  have h2 : (n.take j).length ≤ j := by rw [List.length_take]; omega
                  have := Hbig.out
                  unfold clean; omega
                generalize n[j] = c at hget hct
                have hne : ((S[j].toNat : Int) != 10) = !(c == 10) := by
                  rw [hget]
                  by_cases hm : c = 10
                  · subst hm; rfl
                  · rw [beq_eq_false_iff_ne.2 hm]
                    simp only [Bool.not_false, bne_iff_ne, ne_eq]
                    intro e
                    exact hm (by rw [← UInt8.toNat_inj]; show c.toNat = 10; omega)
                obtain ⟨Q, hQ⟩ : ∃ Q, P ++ [32, 9, 35] ++ clean (n.take j) = Q := ⟨_, rfl⟩
                have hQl := congrArg List.length hQ
                simp only [List.length_append, List.length_cons, List.length_nil] at hQl
                have hQle : Q.length ≤ 20000 := by omega
                have Ho6 := Ho5.out
                rw [hQ] at Ho6
                have HO6 := Lib.hid Ho6
                rw [hQ]
                by_cases hc : c = 10
                · have hne2 : ((S[j].toNat : Int) != 10) = false := by rw [hne, hc]; rfl
                  have hT : P ++ [32, 9, 35] ++ clean (n.take (j + 1)) = Q := by rw [hct, hc, ← hQ]; simp
                  have HT := Lib.hid hT
                  clear hne hc hct hT hQ hQl Ho6 Ho5 hcl hget
                  go_wp2_with fail
                  exact ⟨⟨j + 1, by omega, by go_num, by rw [HT.out]; exact ⟨ao5, cap5, g5, rfl, HO6.out, Hg5.out, HB5.out⟩⟩, by simp [intOf]; omega⟩
                · have hne2 : ((S[j].toNat : Int) != 10) = true := by rw [hne, beq_eq_false_iff_ne.2 hc]; rfl
                  have hT : P ++ [32, 9, 35] ++ clean (n.take (j + 1)) = Q ++ [c] := by rw [hct, beq_eq_false_iff_ne.2 hc, ← hQ]; simp
                  have HT := Lib.hid hT
                  have Hget := Lib.hid hget
                  clear hne hc hct hT hQ hQl Ho6 Ho5 hcl hget
                  go_wp2_with (at_builtin; refine wpList_app rfl (.tmp 72) (.tmp 79) 25 25 rfl hE (HO6.out.alloc _) rfl rfl (srcOne Try.underlying25 _ _ _ _ rfl) (by simp [maxLen]; omega) (by omega) ?_; intro ao7 cap7 g7 W7 ho7 hg7 hon7; have Ho7 := Lib.hid ho7; have Hg7 := Lib.hid hg7; have Hon7 := Lib.hid hon7; clear ho7 hg7 hon7)
                  have hx : prE w1 (Q ++ [c]) (.slice ao7 (Q.length + [c].length) cap7) W7 := prE_app (Q := [c]) Hg5.out (HB5.out.alloc hs5 _) (by have h := Ho7.out; rw [Hget.out] at h; exact h) Hg7.out Hon7.out
                  exact ⟨⟨j + 1, by omega, by go_num, by rw [HT.out]; exact hx⟩, by simp [intOf]; omega⟩
              · obtain rfl : j = n.length := by omega
                rw [List.take_length] at Ho5 ⊢
                obtain ⟨Q, hQ⟩ : ∃ Q, P ++ [32, 9, 35] ++ clean n = Q := ⟨_, rfl⟩
                have hQl := congrArg List.length hQ
                simp only [List.length_append, List.length_cons, List.length_nil] at hQl
                have hQle : Q.length ≤ 20000 := by omega
                have Ho6 := Ho5.out
                rw [hQ] at Ho6
                have HO6 := Lib.hid Ho6
                have HQ := Lib.hid hQ
                rw [hQ]
                have hSe : ¬ (n.length : Int) < (S.size : Int) := by have := HSz.out; omega
                have hSd : decide ((n.length : Int) < (S.size : Int)) = false := decide_eq_false hSe
                have hSd' : decide (n.length < S.size) = false := decide_eq_false (by have := HSz.out; omega)
                clear hQ hQl Ho6 Ho5 hjl hj
                go_wp2_with (at_builtin; refine wpList_app rfl (.tmp 81) (.tmp 83) 25 25 rfl hE (HO6.out.alloc _) rfl rfl ((rd_const _ _ _ _ [10, 32, 10] rfl).src Try.underlying25 _ (byteVals_one _)) (by simp [maxLen]; omega) (by simp; omega) ?_; intro ao8 cap8 g8 W8 ho8 hg8 hon8; have HP8 := Lib.hid (prE_app Hg5.out (HB5.out.alloc hs5 _) ho8 hg8 hon8); clear ho8 hg8 hon8)
                have hlk : l[k]? = none := List.getElem?_eq_none HkL.out
                have hpB := HpB0.out
                have hpL := HpL0.out
                rw [hlk] at hpB hpL
                have hkn := HkN.out
                refine ⟨⟨k + 1, by omega, .inr (by omega), by go_num, by rw [HtL.out, hpL]; simp [noteL], fun j m hj hm => ?_, ?_⟩, by simp [intOf]; omega⟩
                · by_cases hjk : j < k
                  · exact Hsm.out j m hjk hm
                  · obtain rfl : j = k := by omega
                    rw [Hnk.out] at hm; cases hm
                    have := Hbig.out; omega
                · have hT : textB l ns (k + 1) = Q ++ [10, 32, 10] := by rw [HtB.out, hpB, ← HQ.out, noteB]; simp
                  rw [hT]; exact HP8.out
      · have hN : decide ((k : Int) < (ns.length : Int)) = false := decide_eq_false (by omega)
        have hN' : decide (k < ns.length) = false := decide_eq_false hkN
        have hnk : ns[k]? = none := List.getElem?_eq_none (by omega)
        by_cases hkL : k < l.length
        · have hL : decide ((k : Int) < (l.length : Int)) = true := decide_eq_true (by omega)
          have HkL := Lib.hid hkL
          have Hnk := Lib.hid hnk
          have hir : (k : Int) < (l.length : Int) := by omega
          have hlk : l[k]? = some l[k] := List.getElem?_eq_getElem hkL
          rw [hnk, hlk] at hpB hpL
          obtain ⟨b, off, rfl, hb, hc0', hc1', hc2', hokx⟩ := Hrd.out.edge k hkL
          have hc0 := ((bcell HB.out).1 _ _ hb).trans hc0'
          have hc1 := ((bcell HB.out).1 _ _ hb).trans hc1'
          have hc2 := ((bcell HB.out).1 _ _ hb).trans hc2'
          clear hc0' hc1' hc2' hnk hlk
          generalize l[k] = x at hc0 hc1 hc2 hokx hpB hpL
          obtain ⟨x0, x1, x2⟩ := x
          simp only at hc0 hc1 hc2
          have hLn := fun W => eline_any x0 x1 x2 hokx.1 hokx.2.1 hokx.2.2 W
          have hll := lineE_len (x0, x1, x2) hokx
          have hS := fun W => conv_sb ([9, 32] ++ lineE (x0, x1, x2)) W
          have hadd := str_add [9, 32] (lineE (x0, x1, x2)) (by simp; omega)
          rw [show bs [9, 32] = ⟨#[9, 32]⟩ from rfl] at hadd
          have HpB := Lib.hid (show pB = [9, 32] ++ lineE (x0, x1, x2) by rw [hpB]; simp)
          have HpL := Lib.hid (show pL.length = 1 by rw [hpL]; simp)
          have hQl : ([9, 32] ++ lineE (x0, x1, x2)).length ≤ 35 := by simp; omega
          generalize hLe : bs (lineE (x0, x1, x2)) = SL at hLn hadd
          generalize [9, 32] ++ lineE (x0, x1, x2) = Q at hS hadd HpB hQl
          have HLn := Lib.hid hLn
          have HS := Lib.hid hS
          have hk2 := fun (W : World) (a : Option Addr) (c : Nat) (h : Rd W a Q.length (byteVals Q)) => h.src Try.underlying25 c (byteVals_one Q)
          have Hk2 := Lib.hid hk2
          clear hLn hS hk2 hpB hpL hLe hkN hkL hll hokx
          go_wp2_with (first
            | (go_at_call 36; refine (HLn.out _).mono ?_; rintro e w2 ⟨rfl, hB2⟩; obtain ⟨cc, W', hcv, hBv, hRv⟩ := HS.out w2; have HB2 := Lib.hid (hB2.trans (hBv.mono hB2.size)); have HRv := Lib.hid hRv; clear hB2 hBv hRv)
            | (at_builtin; refine wpList_app rfl (.tmp 91) (.tmp 98) 25 25 rfl hE (Ho.out.ext HB2.out) rfl rfl (Hk2.out _ _ _ HRv.out) (by simp [maxLen]; omega) (by omega) ?_; intro ao4 cap4 g4 W4 ho4 hg4 hon4; have HP4 := Lib.hid (prE_app Hg.out (HB.out.trans (HB2.out.mono hs)) ho4 hg4 hon4); clear ho4 hg4 hon4))
          have hkl := HkL.out
          refine ⟨⟨k + 1, by omega, .inl (by omega), by go_num, by rw [HtL.out, HpL.out]; rfl, fun j m hj hm => ?_, by rw [HtB.out, HpB.out]; exact HP4.out⟩, by simp [intOf]; omega⟩
          by_cases hjk : j < k
          · exact Hsm.out j m hjk hm
          · obtain rfl : j = k := by omega
            rw [Hnk.out] at hm; cases hm
        · have hL : decide ((k : Int) < (l.length : Int)) = false := decide_eq_false (by omega)
          have hkl : l.take k = l := List.take_of_length_le (by omega)
          rw [hkl] at Hrk
          have hl50 : P.length ≤ 14100 := by omega
          have hL' : decide (k < l.length) = false := decide_eq_false hkL
          have hlen60 : l.length ≤ 1073741824 := by omega
          clear hnk hpB hpL hkk hk hkN hkL hkl hb1
          cases bad
          · have hR : ∀ ao1 cap1 W, Rd W ao1 P.length (byteVals P) → P.length ≤ cap1 → cap1 ≤ maxLen → Calls Try.prog 32 #[.slice ao1 P.length cap1] W (EReadRet (l, 0, 0) W) := fun ao1 cap1 W h1 h2 h3 => by
              have h := eread_any P (by omega) ao1 cap1 W h1 h2 h3
              have h4 := Hfin.out []
              rw [List.append_nil, show lines [] = [] from rfl, List.append_nil] at h4
              rw [h4, Hrk.out] at h
              exact h
            have HR := Lib.hid hR
            clear hR
            go_wp2_with (first
              | (go_at_call 32; refine (HR.out _ _ _ Ho.out.rd Ho.out.capLe.1 Ho.out.capLe.2).mono ?_; rintro e w3 ⟨a3, c3, rfl, h1, h2, hr3, hB3⟩; have HB3 := Lib.hid (HB.out.trans (hB3.mono hs)); have Hr3 := Lib.hid hr3; clear h1 h2 hr3 hB3)
              | (go_at_call 34; refine (esame_any l a3 ao c3 cap _ _ _ hlen60 Hr3.out (Hrd.out.ext HB3.out)).mono ?_; rintro e w6 ⟨rfl, hB6⟩; have HB6 := Lib.hid hB6; clear hB6)
              | (go_at_call 29; refine (awake12_any _).mono ?_; rintro e w8 ⟨rfl, hB8⟩))
            go_ret
            exact ⟨rfl, ext_trans (ext_trans HB3.out HB6.out) hB8⟩
          · have hR : ∀ ao1 cap1 W, Rd W ao1 (P.length + 3) (byteVals (P ++ [49, 32, 120])) → P.length + 3 ≤ cap1 → cap1 ≤ maxLen → Calls Try.prog 32 #[.slice ao1 (P.length + 3) cap1] W (EReadRet ([], q + 1, 3) W) := fun ao1 cap1 W h1 h2 h3 => by
              have hlen3 : (P ++ [49, 32, 120]).length = P.length + 3 := by simp
              have h := eread_any (P ++ [49, 32, 120]) (by rw [hlen3]; omega) ao1 cap1 W (by rw [hlen3]; exact h1) (by rw [hlen3]; exact h2) h3
              rw [Hfin.out, show lines [49, 32, 120] = [[49, 32, 120]] from rfl, readE_badL TL Hrk.out, Hq.out, hlen3] at h
              exact h
            have HR := Lib.hid hR
            have hq1 : ((q : Int) + 1 == (q : Int) + 1) = true := by simp
            clear hR
            go_wp2_with (first
              | (at_builtin; refine wpList_app rfl (.tmp 103) (.tmp 105) 25 25 rfl hE (Ho.out.alloc _) rfl rfl ((rd_const wr _ _ _ [49, 32, 120] rfl).src Try.underlying25 _ (byteVals_one _)) (by simp [maxLen]; omega) (by simp; omega) ?_; intro ao4 cap4 g4 W4 ho4 hg4 hon4; have HP4 := Lib.hid (prE_app Hg.out (HB.out.alloc hs _) ho4 hg4 hon4); have ho5 : Own W4 ao4 cap4 g4 5 1 (P.length + 3) (byteVals (P ++ [49, 32, 120])) := (by simpa [byteVals] using ho4); have Ho5 := Lib.hid ho5; clear ho4 hg4 hon4 ho5)
              | (go_at_call 32; refine (HR.out _ _ _ Ho5.out.rd Ho5.out.capLe.1 Ho5.out.capLe.2).mono ?_; rintro e w3 ⟨a3, c3, rfl, h1, h2, hr3, hB3⟩; have HB3 := Lib.hid hB3; clear h1 h2 hr3 hB3)
              | (go_at_call 29; refine (awake12_any _).mono ?_; rintro e w8 ⟨rfl, hB8⟩))
            go_ret
            obtain ⟨_, _, _, _, _, _, hb4⟩ := HP4.out
            exact ⟨rfl, ext_trans (ext_trans hb4 HB3.out) hB8⟩
  · rw [allMay_no hm] at hMay
    have HMay := Lib.hid hMay
    clear hrd hrn hMay hm
    go_enter Try.func10, Try.ntmps10
    go_wp2_with (first
      | (go_at_call 35; refine HMay.out.mono ?_; rintro e w1 ⟨rfl, rfl⟩)
      | (go_at_call 29; refine (awake12_any _).mono ?_; rintro e w1 ⟨rfl, hB1⟩))
    go_ret
    exact ⟨rfl, hB1⟩
end Go.Proofs.Ytafbjkbdfdeacaa
