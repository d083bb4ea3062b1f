/- palmerref28.Read. -/
import Derived.Test.YtbleacpdobjdaaaCorpRead
import Derived.Test.YtbleacpdobjdaaaTextRefL
import Derived.Test.YtbleacpdobjdaaaTextRefN
import Derived.Test.YtbleacpdobjdaaaTextRefW
namespace Go.Proofs.Ytbleacpdobjdaaa
set_option linter.unusedSimpArgs false
set_option linter.unusedVariables false
open Go.RowKit

/-- what a call that hands back paths, a line's number and an error leaves -/
def ReadRet (r : List PathD × Nat × Nat) (w : World) (e : Ending) (w' : World) : Prop :=
  ∃ ao cap, e = .returned (.tuple #[.slice ao r.1.length cap, .int .i64 (r.2.1 : Nat), .int .i64 (r.2.2 : Nat)]) ∧ r.1.length ≤ cap ∧ cap ≤ maxLen ∧ RdS pathRep (fun k => w.heap.size ≤ k) w' ao r.1 ∧ Below w.heap.size w w'
def readI (ls : List (List UInt8)) (aw : Option Addr) (cw : Nat) (gw : Option Nat) (w : World) (o i : Value) (wr : World) : Prop :=
  ∃ (k : Nat) (out : List PathD) (ao : Option Addr) (cap : Nat) (g : Option Nat) (fe : Nat → Prop), k ≤ ls.length ∧ i = .int .i64 (k : Nat) ∧ o = .slice ao out.length cap ∧ out.length = k ∧ readGo out k (ls.drop k) = readL ls ∧
    OwnS pathRep fe wr ao cap g 64 out ∧ (∀ b, fe b → w.heap.size ≤ b ∧ b < wr.heap.size ∧ g ≠ some b) ∧ (∀ b, g = some b → w.heap.size ≤ b ∧ gw ≠ some b) ∧ Own wr aw cw gw 9 1 ls.length (strCells ls) ∧ Below w.heap.size w wr

theorem notAbove_yes {out : List PathD} {v : Nat} (h : notAbove out v = true) : ∃ i : Nat, ∃ h : i < out.length, out.length = i + 1 ∧ v ≤ out[i].1 := by
  unfold notAbove at h
  split at h
  · cases h
  · rename_i q hq
    rw [List.getLast?_eq_getElem?] at hq
    obtain ⟨hi, he⟩ := List.getElem?_eq_some_iff.1 hq
    exact ⟨out.length - 1, hi, by omega, by rw [he]; exact of_decide_eq_true h⟩
theorem notAbove_no {out : List PathD} {v : Nat} (h : notAbove out v = false) : out.length = 0 ∨ ∃ i : Nat, ∃ h : i < out.length, out.length = i + 1 ∧ out[i].1 < v := by
  unfold notAbove at h
  split at h
  · rename_i hq
    left; rw [List.getLast?_eq_none_iff.1 hq]; rfl
  · rename_i q hq
    rw [List.getLast?_eq_getElem?] at hq
    obtain ⟨hi, he⟩ := List.getElem?_eq_some_iff.1 hq
    exact .inr ⟨out.length - 1, hi, by omega, by rw [he]; have := of_decide_eq_false h; omega⟩

/-- one path more -/
theorem read_step {w wo w2 wr W5 : World} {out : List PathD} {ao5 : Option Addr} {cap5 cl bl v : Nat} {vs : List Nat} {g g5 : Option Nat} {fe : Nat → Prop} {css : List (List Value)} (hB : Below w.heap.size w wo) (hB2 : Below wo.heap.size wo w2) (hBl : Below w2.heap.size w2 wr)
    (hall : All2 (fun x cs => pathRep.ok wo fe x cs) out css) (hfe : ∀ b, fe b → w.heap.size ≤ b ∧ b < wo.heap.size ∧ g ≠ some b) (hg : ∀ b, g = some b → w.heap.size ≤ b ∧ b < wo.heap.size)
    (hl : Own wr (some ⟨bl, 0, none⟩) cl (some bl) 45 1 (vs.length + 1) (u32Vals (v :: vs))) (hgl : w2.heap.size ≤ bl) (hvb : ∀ u ∈ v :: vs, u < 4294967296)
    (ho5 : Own W5 ao5 cap5 g5 64 2 (out.length + 1) (css.flatten ++ [.int .u32 (v : Nat), .slice (some ⟨bl, 1, none⟩) vs.length (cl - 1)])) (hg5 : ∀ b, g5 = some b → g = some b ∨ wr.heap.size ≤ b) (hon : Only (fun k => g = some k) wr W5) :
    OwnS pathRep (fun b => fe b ∨ b = bl) W5 ao5 cap5 g5 64 (out ++ [(v, vs)]) ∧ (∀ b, (fe b ∨ b = bl) → w.heap.size ≤ b ∧ b < W5.heap.size ∧ g5 ≠ some b) ∧ (∀ b, g5 = some b → w.heap.size ≤ b ∧ (g = some b ∨ wr.heap.size ≤ b)) ∧ Below w.heap.size w W5 := by
  have s1 := hB.size
  have s2 := hB2.size
  have s3 := hBl.size
  have s5 := hon.size
  have hblr : bl < wr.heap.size := hl.lt bl rfl
  have hng : ∀ b, (fe b ∨ b = bl) → w.heap.size ≤ b ∧ b < wr.heap.size ∧ g ≠ some b := fun b hb => by
    rcases hb with h | rfl
    · have := hfe b h; exact ⟨this.1, by omega, this.2.2⟩
    · exact ⟨by omega, hblr, fun e => by have := (hg _ e).2; omega⟩
  have hk : ∀ b, b < wo.heap.size → g ≠ some b → W5.heap[b]? = wo.heap[b]? := fun b hb hn => (hon.same b (by omega) hn).trans ((hBl.block b (by omega)).trans (hB2.block b hb))
  refine ⟨?_, fun b hb => ⟨(hng b hb).1, by have := (hng b hb).2.1; omega, fun e => ?_⟩, fun b hb => ⟨(hg5 b hb).elim (fun h => (hg b h).1) (fun h => by omega), hg5 b hb⟩, ?_⟩
  · refine OwnS.snoc (w := wo) (forall2_imp (fun x cs h => pathRep.mono h (fun b hb _ => .inl hb)) hall) (cs := [.int .u32 (v : Nat), .slice (some ⟨bl, 1, none⟩) vs.length (cl - 1)]) ?_ ho5 (fun b hb hlt => hk b hlt (hng b hb).2.2) (by omega)
    have hcl := hl.capLe
    refine pathRep_ok (by simp only; omega) (by omega) (hvb v (by simp)) ?_
    have h1 := (rdS_u32 (l := v :: vs) (by simpa using hl) hvb).drop 1
    simp only [Rep.u32, Rep.nat, Nat.mul_one, Nat.zero_add, List.drop_succ_cons, List.drop_zero] at h1
    exact (h1.only hon (fun b hb _ e => (hng b (.inr (by cases hb; rfl))).2.2 e)).mono (fun b hb _ => .inr (by cases hb; rfl))
  · rcases hg5 b e with h | h
    · exact (hng b hb).2.2 h
    · have := (hng b hb).2.1; omega
  · exact ((hB.trans (hB2.mono s1)).trans (hBl.mono (by omega))).trans (hon.below (by omega) (fun k hk e => by have := (hg k e).1; omega))

set_option maxRecDepth 100000 in
set_option maxHeartbeats 3200000 in
theorem rread_any (l : List UInt8) (hl : l.length ≤ 1073741000) (ao : Option Addr) (cap : Nat) (w : World) (hrd : Rd w ao l.length (byteVals l)) :
    Calls Try.prog 38 #[.slice ao l.length cap] w (ReadRet (readL (lines l)) w) := by
  have hE := pathElem
  have hEu := u32Elem
  have hL := fun (W : World) (hB : Below w.heap.size w W) => rlines_any l (by omega) ao cap W (hrd.ext hB)
  have hll := lines_len l
  have hlm := lines_mem l
  generalize lines l = ls at hL hll hlm
  have HL := Lib.hid hL
  have Hlm := Lib.hid hlm
  clear hL hlm hrd
  go_enter Try.func38, Try.ntmps38
  go_wp2_with (go_at_call 23; refine (HL.out _ ((ext_alloc w _).alloc (by simp) _)).mono ?_; rintro e w1 ⟨aw, cw, gw, rfl, how, hgw, hB1⟩; have hz1 := hB1.size; simp at hz1; have HB1 := Lib.hid hB1; have How := Lib.hid how; have Hgw := Lib.hid hgw; clear hB1 how hgw)
  have hBw1 : Below w.heap.size w w1 := ((ext_alloc w _).alloc (by simp) _).trans (HB1.out.mono (by simp; omega))
  have HBw1 := Lib.hid hBw1
  have hn2 : Own w1 (some ⟨w.heap.size + 1, 0, none⟩) 0 (some (w.heap.size + 1)) 64 2 0 [] := (Own.emptyAt _ 64 2 (w.heap.size + 1) (by simp)).ext HB1.out
  have Hn2 := Lib.hid hn2
  clear hBw1 hn2
  go_loopw [6, 20] (fun o i wr => readI ls aw cw gw w o i wr) (fun _ i _ => ls.length - (intOf i).toNat)
  case atStart => exact ⟨0, [], _, 0, some (w.heap.size + 1), fun _ => False, by omega, rfl, rfl, rfl, rfl, ⟨[], Hn2.out, .nil⟩, fun b h => h.elim, (fun b h => by cases h; exact ⟨by omega, fun e => by have := Hgw.out _ e; simp at this; omega⟩), How.out, HBw1.out⟩
  case round =>
    obtain ⟨k, out, ao', cap', g, fe, hk, rfl, rfl, hol, hgo, hown, hfe, hg, how, hB⟩ := hrel
    have Hown := Lib.hid hown
    have Hfe := Lib.hid hfe
    have Hg := Lib.hid hg
    have HB := Lib.hid hB
    have Hol := Lib.hid hol
    have How := Lib.hid how
    have hbs := hB.size
    obtain ⟨wo, rfl⟩ : ∃ wo : World, wo = wr := ⟨_, rfl⟩
    by_cases hlt : k < ls.length
    · obtain ⟨bw, hgw, rfl, hbw⟩ := how.pos (by omega)
      have hcell := how.cell k (by omega)
      rw [List.drop_eq_getElem_cons hlt] at hgo
      have hx := Hlm.out ls[k] (List.getElem_mem hlt)
      simp only [strCells, List.getElem?_map, List.getElem?_eq_getElem hlt, Option.map_some] at hcell
      obtain ⟨x, hxe⟩ : ∃ x, ls[k] = x := ⟨_, rfl⟩
      rw [hxe] at hgo hx hcell
      have hir : (k : Int) < (ls.length : Int) := by omega
      have hW := rwords_any x (by omega)
      have hwl := words_len x
      have hwm := words_mem x
      have HW := Lib.hid hW
      have Hwm := Lib.hid hwm
      have Hgw := Lib.hid hgw
      clear hown hfe hg hB hol how hxe hW hwm hgw
      by_cases h2 : (words x).length < 2
      · have he : lineErr out x = 12 := by simp [lineErr, h2]
        rw [readGo_bad (by omega), he] at hgo
        have hd : decide (((words x).length : Int) < 2) = true := decide_eq_true (by omega)
        have Hgo := Lib.hid hgo
        clear hgo he h2
        go_wp2_with (go_at_call 18; refine (HW.out _).mono ?_; rintro e w2 ⟨ad, cd, gd, rfl, hod, hgd, hB2⟩; have HB2 := Lib.hid hB2; clear hB2 hod hgd)
        refine bodyPost_ret (v := .tuple #[.slice (some ⟨w.heap.size, 0, none⟩) 0 0, .int .i64 ((k + 1 : Nat) : Int), .int .i64 12]) (by simp [results, Try.results38, go_sem]) rfl ?_
        rw [← Hgo.out]
        exact ⟨_, 0, rfl, Nat.le_refl _, by simp [maxLen], .inl rfl, ext_trans HB.out HB2.out⟩
      · have hd : decide (((words x).length : Int) < 2) = false := decide_eq_false (by omega)
        have hE1 : (nums (words x)).2 ≠ 0 → lineErr out x = (nums (words x)).2 := fun h => by simp [lineErr, h2, h]
        have hE2 : (nums (words x)).2 = 0 → notAbove out ((nums (words x)).1.headD 0) = true → lineErr out x = 13 := fun h h' => by unfold lineErr; rw [if_neg h2, if_neg (by omega), if_pos h']
        have hE3 : (nums (words x)).2 = 0 → notAbove out ((nums (words x)).1.headD 0) = false → lineErr out x = 0 := fun h h' => by unfold lineErr; rw [if_neg h2, if_neg (by omega), if_neg (by rw [h']; decide)]
        have hP : pathOf x = ((nums (words x)).1.headD 0, (nums (words x)).1.tail) := rfl
        have hok := @nums_ok (words x)
        generalize words x = ws at HW hwl Hwm h2 hd hE1 hE2 hE3 hP hok
        have HE1 := Lib.hid hE1
        have HE2 := Lib.hid hE2
        have HE3 := Lib.hid hE3
        have HP := Lib.hid hP
        have Hok := Lib.hid hok
        have Hgo := Lib.hid hgo
        clear hE1 hE2 hE3 hP hok hgo
        go_wp2_with (go_at_call 18; refine (HW.out _).mono ?_; rintro e w2 ⟨ad, cd, gd, rfl, hod, hgd, hB2⟩; have hz2 := hB2.size; have HB2 := Lib.hid hB2; have Hod := Lib.hid hod; clear hB2 hod hgd)
        clear hcell
        go_loopw [10, 37] (fun o i wr2 => numsI ws w2 o i wr2) (fun _ i _ => ws.length - (intOf i).toNat)
        case atStart => exact ⟨0, [], _, 0, some w2.heap.size, by omega, rfl, rfl, rfl, rfl, Own.empty w2 _ _, (fun b h => by cases h; omega), ext_alloc w2 _⟩
        case round =>
          obtain ⟨j, acc, al, cl, gl, hj, rfl, rfl, hal, hgo2, hownl, hgl, hBl⟩ := hrel
          have Hownl := Lib.hid hownl
          have Hgl := Lib.hid hgl
          have HBl := Lib.hid hBl
          have Hal := Lib.hid hal
          have hBs := hBl.size
          by_cases hjl : j < ws.length
          · obtain ⟨bd, hgd, rfl, hbd⟩ := Hod.out.pos (by omega)
            have hcj := (((bcell HBl.out).1 bd j hbd).trans (Hod.out.cell j (by omega)))
            rw [List.drop_eq_getElem_cons hjl] at hgo2
            have hy := Hwm.out ws[j] (List.getElem_mem hjl)
            simp only [strCells, List.getElem?_map, List.getElem?_eq_getElem hjl, Option.map_some] at hcj
            obtain ⟨y, hye⟩ : ∃ y, ws[j] = y := ⟨_, rfl⟩
            rw [hye] at hgo2 hy hcj
            have hirj : (j : Int) < (ws.length : Int) := by omega
            have hnl := num_le y 4294967295
            have hN := rnum_any y 4294967295 (by omega) (by omega)
            have Hgd := Lib.hid hgd
            by_cases he : (num y 4294967295).2 = 0
            · rw [numsGo_ok he] at hgo2
              obtain ⟨⟨v, e⟩, hne⟩ : ∃ r, num y 4294967295 = r := ⟨_, rfl⟩
              rw [hne] at hgo2 hnl hN he
              simp only at hgo2 hnl he
              subst he
              simp only [numOut] at hN
              have hv : v ≤ 4294967295 := hnl.1
              have Hgo2 := Lib.hid hgo2
              have HN := Lib.hid hN
              have hal2 : acc.length ≤ 1073741824 := by omega
              have u1 : IntKind.u32.wrap ((v : Nat) : Int) = ((v : Nat) : Int) := IntWalk.u32_in _ (by omega)
              clear hownl hgl hBl hal hye hgo2 hN hne hnl hgd
              go_wp2_with (first
                | (go_at_call 20; refine (HN.out _).mono ?_; rintro e w3 ⟨rfl, hw3⟩; subst w3)
                | (at_builtin; refine wpList_app rfl (.tmp 54) (.tmp 57) 62 62 rfl hEu (Hownl.out.alloc _) rfl rfl (srcOne Try.underlying62 wr (.int .u32 (v : Nat)) 45 1 rfl) (by simp [maxLen]; omega) (by omega) ?_; intro ao3 cap3 g3 W3 ho3 hg3 hon3; have Ho3 := Lib.hid ho3; have Hg3 := Lib.hid hg3; have Hon3 := Lib.hid hon3; clear ho3 hg3 hon3))
              go_roundw
              case rel =>
                have hon : Only (fun k => gl = some k) wr W3 := (Only.of_below (ext_alloc wr _)).trans Hon3.out (fun _ _ h => h)
                refine ⟨j + 1, acc ++ [v], ao3, cap3, g3, by omega, by go_num, by simp, by simp [Hal.out], Hgo2.out, by simpa [u32Vals] using Ho3.out, fun i hi => ?_, ?_⟩
                · rcases Hg3.out with e | e <;> rw [e] at hi
                  · exact Hgl.out i hi
                  · cases hi; simp; omega
                · exact HBl.out.trans (hon.below (by omega) (fun i hi e => by have := Hgl.out i e; omega))
              case measure => simp [intOf]; omega
            · rw [numsGo_bad he] at hgo2
              obtain ⟨⟨v, e⟩, hne⟩ : ∃ r, num y 4294967295 = r := ⟨_, rfl⟩
              rw [hne] at hgo2 hnl hN he
              simp only at hgo2 hnl he
              simp only [numOut] at hN
              have hd2 : ((e : Int) != 0) = true := by simp; omega
              have hle : lineErr out x = e := by rw [HE1.out (by rw [← hgo2]; exact he), ← hgo2]
              have hgo := Hgo.out
              rw [readGo_bad (by omega), hle] at hgo
              have Hgo3 := Lib.hid hgo
              have HN := Lib.hid hN
              clear hownl hgl hBl hal hye hgo2 hN hne hnl hgd he hle hgo
              go_wp2_with (go_at_call 20; refine (HN.out _).mono ?_; rintro e w3 ⟨rfl, hw3⟩; subst w3)
              refine bodyPost_ret (v := .tuple #[.slice (some ⟨w.heap.size, 0, none⟩) 0 0, .int .i64 ((k + 1 : Nat) : Int), .int .i64 (e : Nat)]) (by simp [results, Try.results38, go_sem]) rfl ?_
              rw [← Hgo3.out]
              exact ⟨_, 0, rfl, Nat.le_refl _, by simp [maxLen], .inl rfl, ext_trans (ext_trans HB.out HB2.out) HBl.out⟩
          · obtain rfl : j = ws.length := by omega
            rw [List.drop_length] at hgo2
            have h20 : (nums ws).2 = 0 := by rw [← hgo2]; rfl
            have h21 : (nums ws).1 = acc := by rw [← hgo2]; rfl
            obtain ⟨_, hvb⟩ := Hok.out h20
            rw [h21] at hvb
            have hE2 := HE2.out h20
            have hE3 := HE3.out h20
            have hP := HP.out
            rw [h21] at hE2 hE3 hP
            match acc, hal, hvb, Hownl, hE2, hE3, hP with
            | [], hal, _, _, _, _, _ => simp at hal; omega
            | v :: vs, hal, hvb, Hownl, hE2, hE3, hP =>
              simp only [List.headD_cons, List.tail_cons] at hE2 hE3 hP
              obtain ⟨bl, hgl2, rfl, hbl⟩ := Hownl.out.pos (by simp)
              have hc0 := Hownl.out.cell 0 (by simp)
              simp only [u32Vals, List.map_cons, List.getElem?_cons_zero] at hc0
              have hvb0 : v < 4294967296 := hvb v (by simp)
              have hcl := Hownl.out.capLe
              simp only [List.length_cons] at hcl hal
              have hlv : (0 : Int) < ((vs.length + 1 : Nat) : Int) := by omega
              have hBwo : Below wo.heap.size wo wr := HB2.out.trans (HBl.out.mono hz2)
              simp only [List.length_cons]
              by_cases hna : notAbove out v = true
              · have hle := hE2 hna
                obtain ⟨i, hi, hoi, hvi⟩ := notAbove_yes hna
                obtain ⟨bo, oo, ap, cp, rfl, hbo, hco, _, _, _, _⟩ := Hown.out.rd.path i hi
                have hco' := ((bcell hBwo).1 bo _ hbo).trans hco
                have hgo := Hgo.out
                rw [readGo_bad (by omega), hle] at hgo
                have Hgo3 := Lib.hid hgo
                rw [hoi]
                have hgt : decide ((0 : Int) < ((i + 1 : Nat) : Int)) = true := decide_eq_true (by omega)
                have hsub : ((i + 1 : Nat) : Int) - 1 = (i : Nat) := by omega
                have hib : (i : Int) < ((i + 1 : Nat) : Int) := by omega
                have hib2 : i ≤ 1073741000 := by have := Hol.out; omega
                obtain ⟨q, hq⟩ : ∃ q, out[i].1 = q := ⟨_, rfl⟩
                rw [hq] at hco' hvi
                have ht1 : decide ((v : Int) ≤ (q : Int)) = true := decide_eq_true (by omega)
                have ht2 : decide (v ≤ q) = true := decide_eq_true hvi
                have hBwr := Lib.hid (ext_trans (ext_trans HB.out HB2.out) HBl.out)
                clear hoi hvi hgl hBl hal hvb hE2 hE3 hP hgo2 h21 hgl2 hownl hcl hna hle hBwo hco hgo hq h20
                go_wp2_with fail
                go_quiet (fail)
                go_wp2_with fail
                refine bodyPost_ret (v := .tuple #[.slice (some ⟨w.heap.size, 0, none⟩) 0 0, .int .i64 ((k + 1 : Nat) : Int), .int .i64 13]) (by simp [results, Try.results38, go_sem]) rfl ?_
                rw [← Hgo3.out]
                exact ⟨_, 0, rfl, Nat.le_refl _, by simp [maxLen], .inl rfl, below_drewN hBwr.out _⟩
              · have hle := hE3 (by simpa using hna)
                have hgo := Hgo.out
                rw [readGo_ok hle, hP] at hgo
                have Hgo3 := Lib.hid hgo
                obtain ⟨css, hown0, hall⟩ := Hown.out.own
                have Hall := Lib.hid hall
                have hown1 : Own wr ao' cap' g 64 2 out.length css.flatten := Own.ext hown0 hBwo
                have hcl1 : ¬ cl = 1 := by omega
                have hl1 : (1 : Int) ≤ ((vs.length + 1 : Nat) : Int) := by omega
                have hl2 : (1 : Int) ≤ (vs.length : Int) + 1 := by omega
                have hcl3 : (1 : Int) ≤ (cl : Int) := by omega
                have hcl4 : (vs.length : Int) + 1 ≤ (cl : Int) := by omega
                have hcl5 : ((vs.length + 1 : Nat) : Int) ≤ (cl : Int) := by omega
                have hcl2 := Lib.hid hcl
                have Hvb := Lib.hid hvb
                have Hgl2 := Lib.hid hgl2
                have hb2 : w2.heap.size ≤ bl := hgl bl hgl2
                have hHl := Lib.hid (show Own wr (some ⟨bl, 0, none⟩) cl (some bl) 45 1 (vs.length + 1) (u32Vals (v :: vs)) by rw [← hgl2]; simpa using Hownl.out)
                have hgwo : ∀ b, g = some b → b < wo.heap.size := Hown.out.lt
                have Hgwo := Lib.hid hgwo
                rcases notAbove_no (show notAbove out v = false by simpa using hna) with h0 | ⟨i, hi, hoi, hvi⟩
                · obtain ⟨n, hn⟩ : ∃ n, out.length = n := ⟨_, rfl⟩
                  have hgt : decide ((0 : Int) < (n : Int)) = false := decide_eq_false (by omega)
                  have hgt2 : decide (0 < n) = false := decide_eq_false (by omega)
                  have hnb : n ≤ 1073741000 := by omega
                  rw [hn] at hown1 ⊢
                  have Hn := Lib.hid hn
                  have Hown1 := Lib.hid hown1
                  clear hn h0 hown1 hgwo hgl hBl hal hvb hE2 hE3 hP hgo2 h21 hgl2 hownl hcl hna hle hgo h20 hown0 hall
                  go_wp2_with fail
                  go_quiet (fail)
                  go_wp2_with fail
                  go_region_held3 (fun w' => w'.cell? ⟨bl, 0, none⟩ = some (.int .u32 (v : Nat))) (first | go_keep | (simp [cell_set_ite, *]))
                    ((refine step_app rfl (.tmp 79) (.tmp 86) 49 49 rfl hE (((Hown1.out.ext (ext_drewN _ _)).ext (ext_drew _)).alloc _) rfl rfl (srcManyAt Try.underlying49 _ _ _ _ 2 _ (by simp) rfl (by simp [Value.oneCell'])) (by simp [maxLen]; omega) (by omega) ?_; intro ao5 cap5 g5 W5 ho5 hg5 hon5; have Ho5 := Lib.hid ho5; have Hg5 := Lib.hid hg5; have Hon5 := Lib.hid hon5; have hc5 := hon5.cell (b := bl) (by simp; omega) (fun e => by have := Hgwo.out _ e; omega) 0; simp only [go_sem] at hc5; clear ho5 hg5 hon5))
                  go_wp2_with fail
                  go_roundw
                  case rel =>
                    have hon : Only (fun k => g = some k) wr W5 := (Only.of_below ((ext_drewN wr (nq + 1)).alloc (by simp) _)).trans Hon5.out (fun _ _ h => h)
                    obtain ⟨r1, r2, r3, r4⟩ := read_step HB.out HB2.out HBl.out Hall.out Hfe.out (fun b hb => ⟨(Hg.out b hb).1, Hgwo.out b hb⟩) hHl.out hb2 Hvb.out (by rw [Hn.out]; exact Ho5.out) (fun b h => by rcases Hg5.out with e | e <;> rw [e] at h <;> first | exact .inl h | (cases h; right; simp)) hon
                    have hbw2 : bw < wr.heap.size := by omega
                    refine ⟨k + 1, out ++ [(v, vs)], ao5, cap5, g5, _, by omega, by go_num, by simp [Hn.out], by simp [Hol.out], Hgo3.out, r1, r2, fun b hb => ⟨(r3 b hb).1, fun e => ?_⟩, (How.out.ext (HB2.out.trans (HBl.out.mono hz2))).only hon (fun b hb e => (Hg.out b e).2 hb), r4⟩
                    rcases (r3 b hb).2 with h | h
                    · exact (Hg.out b h).2 e
                    · rw [Hgw.out] at e; cases e; omega
                  case measure => simp [intOf]; omega
                · obtain ⟨bo, oo, ap, cp, rfl, hbo, hco, _, _, _, _⟩ := Hown.out.rd.path i hi
                  have hco' := ((bcell hBwo).1 bo _ hbo).trans hco
                  have hgt : decide ((0 : Int) < ((i + 1 : Nat) : Int)) = true := decide_eq_true (by omega)
                  have hsub : ((i + 1 : Nat) : Int) - 1 = (i : Nat) := by omega
                  have hib : (i : Int) < ((i + 1 : Nat) : Int) := by omega
                  have hib2 : i ≤ 1073741000 := by have := Hol.out; omega
                  obtain ⟨q, hq⟩ : ∃ q, out[i].1 = q := ⟨_, rfl⟩
                  rw [hq] at hco' hvi
                  have ht1 : decide ((v : Int) ≤ (q : Int)) = false := decide_eq_false (by omega)
                  have ht2 : decide (v ≤ q) = false := decide_eq_false (by omega)
                  rw [hoi] at hown1 ⊢
                  have Hn := Lib.hid hoi
                  have Hown1 := Lib.hid hown1
                  clear hoi hown1 hgwo hgl hBl hal hvb hE2 hE3 hP hgo2 h21 hgl2 hownl hcl hna hle hgo h20 hown0 hall hvi hq hco hBwo
                  go_wp2_with fail
                  go_quiet (fail)
                  go_wp2_with fail
                  go_region_held3 (fun w' => w'.cell? ⟨bl, 0, none⟩ = some (.int .u32 (v : Nat))) (first | go_keep | (simp [cell_set_ite, *]))
                    ((refine step_app rfl (.tmp 79) (.tmp 86) 49 49 rfl hE (((Hown1.out.ext (ext_drewN _ _)).ext (ext_drew _)).alloc _) rfl rfl (srcManyAt Try.underlying49 _ _ _ _ 2 _ (by simp) rfl (by simp [Value.oneCell'])) (by simp [maxLen]; omega) (by omega) ?_; intro ao5 cap5 g5 W5 ho5 hg5 hon5; have Ho5 := Lib.hid ho5; have Hg5 := Lib.hid hg5; have Hon5 := Lib.hid hon5; have hc5 := hon5.cell (b := bl) (by simp; omega) (fun e => by have := Hgwo.out _ e; omega) 0; simp only [go_sem] at hc5; clear ho5 hg5 hon5))
                  go_wp2_with fail
                  go_roundw
                  case rel =>
                    have hon : Only (fun k => g = some k) wr W5 := (Only.of_below ((ext_drewN wr (nq + 1)).alloc (by simp) _)).trans Hon5.out (fun _ _ h => h)
                    obtain ⟨r1, r2, r3, r4⟩ := read_step HB.out HB2.out HBl.out Hall.out Hfe.out (fun b hb => ⟨(Hg.out b hb).1, Hgwo.out b hb⟩) hHl.out hb2 Hvb.out (by rw [Hn.out]; exact Ho5.out) (fun b h => by rcases Hg5.out with e | e <;> rw [e] at h <;> first | exact .inl h | (cases h; right; simp)) hon
                    have hbw2 : bw < wr.heap.size := by omega
                    refine ⟨k + 1, out ++ [(v, vs)], ao5, cap5, g5, _, by omega, by go_num, by simp [Hn.out], by simp [Hol.out], Hgo3.out, r1, r2, fun b hb => ⟨(r3 b hb).1, fun e => ?_⟩, (How.out.ext (HB2.out.trans (HBl.out.mono hz2))).only hon (fun b hb e => (Hg.out b e).2 hb), r4⟩
                    rcases (r3 b hb).2 with h | h
                    · exact (Hg.out b h).2 e
                    · rw [Hgw.out] at e; cases e; omega
                  case measure => simp [intOf]; omega
    · obtain rfl : k = ls.length := by omega
      rw [List.drop_length] at hgo
      have Hgo := Lib.hid hgo
      clear hown hfe hg hB hol how hgo
      go_wp2_with fail
      refine bodyPost_ret (v := .tuple #[.slice ao' out.length cap', .int .i64 0, .int .i64 0]) (by simp [results, Try.results38, go_sem]) rfl ?_
      rw [← Hgo.out]
      exact ⟨ao', cap', rfl, Hown.out.capLe.1, Hown.out.capLe.2, Hown.out.rd.mono (fun b hb _ => hb.elim (fun h => (Hfe.out b h).1) (fun h => (Hg.out b h).1)), HB.out⟩
end Go.Proofs.Ytbleacpdobjdaaa
