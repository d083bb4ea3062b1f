/- palmerref12.Read, Same. -/
import Derived.Test.YtafbjkbdfdeacaaEdgeReadW
import Derived.Test.YtafbjkbdfdeacaaEdgeRef1
import Derived.Test.YtafbjkbdfdeacaaTextRefL
namespace Go.Proofs.Ytafbjkbdfdeacaa
set_option linter.unusedSimpArgs false
set_option linter.unusedVariables false
open Go.RowKit

def ereadI (ls : List (List UInt8)) (aw : Option Addr) (cw : Nat) (gw : Option Nat) (w : World) (o i : Value) (wr : World) : Prop :=
  ∃ (k : Nat) (out : List EdgeD) (ao : Option Addr) (cap : Nat) (g : Option Nat), k ≤ ls.length ∧ i = .int .i64 (k : Nat) ∧ o = .slice ao out.length cap ∧ out.length ≤ k ∧ readEGo out k (ls.drop k) = readE ls ∧
    OwnS edgeRep (fun _ => False) wr ao cap g 24 out ∧ (∀ b, g = some b → w.heap.size ≤ b ∧ gw ≠ some b) ∧ Own wr aw cw gw 9 1 ls.length (strCells ls) ∧ Below w.heap.size w wr

set_option maxRecDepth 100000 in
set_option maxHeartbeats 3200000 in
theorem eref_any (l : List UInt8) (hl : l.length ≤ 1073741000) (ao : Option Addr) (cap : Nat) (w : World) (hrd : Rd w ao l.length (byteVals l)) :
    Calls Try.prog 33 #[.slice ao l.length cap] w (EReadRet (readE (lines l)) w) := by
  have hE := edgeElem
  have hL := fun (W : World) (hB : Below w.heap.size w W) => rlines_any l (by omega) ao cap W (hrd.ext hB)
  have hll := lines_len l
  have hlm := lines_mem2 l
  generalize lines l = ls at hL hll hlm
  have HL := Lib.hid hL
  have Hlm := Lib.hid hlm
  clear hL hlm hrd
  go_enter Try.func33, Try.ntmps33
  go_wp2_with (go_at_call 56; refine (HL.out _ (ext_alloc w _)).mono ?_; rintro e w1 ⟨aw, cw, gw, rfl, how, hgw, hB1⟩; have hz1 := hB1.size; simp at hz1; have HB1 := Lib.hid hB1; have How := Lib.hid how; have Hgw := Lib.hid hgw; clear hB1 how hgw)
  have hBw1 : Below w.heap.size w w1 := (ext_alloc w _).trans (HB1.out.mono (by simp))
  have HBw1 := Lib.hid hBw1
  have hn2 : Own w1 (some ⟨w.heap.size, 0, none⟩) 0 (some w.heap.size) 24 3 0 [] := (Own.emptyAt _ 24 3 w.heap.size rfl).ext HB1.out
  have Hn2 := Lib.hid hn2
  clear hBw1 hn2
  go_loopw [5, 16] (fun o i wr => ereadI ls aw cw gw w o i wr) (fun _ i _ => ls.length - (intOf i).toNat)
  case atStart => exact ⟨0, [], _, 0, some w.heap.size, by omega, rfl, rfl, Nat.le_refl _, rfl, ⟨[], Hn2.out, .nil⟩, (fun b h => by cases h; exact ⟨Nat.le_refl _, fun e => by have := Hgw.out _ e; simp at this; omega⟩), How.out, HBw1.out⟩
  case round =>
    obtain ⟨k, out, ao', cap', g, hk, rfl, rfl, hol, hgo, hown, hg, how, hB⟩ := hrel
    have Hown := Lib.hid hown
    have Hg := Lib.hid hg
    have HB := Lib.hid hB
    have Hol := Lib.hid hol
    have How := Lib.hid how
    have hbs := hB.size
    obtain ⟨wo, rfl⟩ : ∃ wo : World, wo = wr := ⟨_, rfl⟩
    by_cases hlt : k < ls.length
    · obtain ⟨bw, hgw, rfl, hbw⟩ := how.pos (by omega)
      have hcell := how.cell k (by omega)
      rw [List.drop_eq_getElem_cons hlt] at hgo
      have hx := Hlm.out ls[k] (List.getElem_mem hlt)
      simp only [strCells, List.getElem?_map, List.getElem?_eq_getElem hlt, Option.map_some] at hcell
      obtain ⟨y, hxe⟩ : ∃ x, ls[k] = x := ⟨_, rfl⟩
      rw [hxe] at hgo hx hcell
      have hir : (k : Int) < (ls.length : Int) := by omega
      have hO : ∀ W : World, Calls Try.prog 31 #[.string (bs y)] W (fun e w' => e = .returned (.tuple #[edgeV (oneE y).1, .bool (oneE y).2.1, .int .i64 ((oneE y).2.2 : Nat)]) ∧ Below W.heap.size W w') := fun W => rone_any y (by omega) W
      have hb1 : (oneE y).2.2 ≠ 0 → readE ls = ([], k + 1, (oneE y).2.2) := fun h => by rw [← hgo, readE_bad h]
      have hb2 : (oneE y).2.2 = 0 → (oneE y).2.1 = false → readEGo out (k + 1) (ls.drop (k + 1)) = readE ls := fun h h2 => by rw [← hgo, readE_skip h h2]
      have hb3 : (oneE y).2.2 = 0 → (oneE y).2.1 = true → readEGo (out ++ [(oneE y).1]) (k + 1) (ls.drop (k + 1)) = readE ls := fun h h2 => by rw [← hgo, readE_take h h2]
      have hb4 : (oneE y).2.1 = true → okE (oneE y).1 := fun h => by
        rcases oneW_ok (words y) with ⟨_, _, h2, _⟩ | ⟨_, h2, _⟩
        · exact h2
        · unfold oneE at h; rw [h2] at h; cases h
      generalize oneE y = r at hO hb1 hb2 hb3 hb4
      obtain ⟨⟨x0, x1, x2⟩, is, er⟩ := r
      simp only at hb1 hb2 hb3 hb4
      simp only [edgeV] at hO
      have HO := Lib.hid hO
      have Hb1 := Lib.hid hb1
      have Hb2 := Lib.hid hb2
      have Hb3 := Lib.hid hb3
      have Hb4 := Lib.hid hb4
      have Hgw2 := Lib.hid hgw
      clear hown hg hB hol how hxe hgo hO hb1 hb2 hb3 hb4 hgw
      by_cases he : er = 0
      · have hd1 : ((er : Int) != 0) = false := by simp [he]
        cases is
        · go_wp2_with (go_at_call 31; refine (HO.out _).mono ?_; rintro e w2 ⟨rfl, hB2⟩; have HB2 := Lib.hid hB2; clear hB2)
          have hb := HB2.out.alloc (by have := HB2.out.size; omega) (.cells #[.int .u32 (x0 : Nat), .int .u32 (x1 : Nat), .int .u32 (x2 : Nat)] 24)
          exact ⟨⟨k + 1, out, ao', cap', g, by omega, by go_num, rfl, by have := Hol.out; omega, Hb2.out he (by first | rfl | trivial), Hown.out.ext hb, Hg.out, How.out.ext hb, ext_trans HB.out hb⟩, by simp [intOf]; omega⟩
        · obtain ⟨n, hn⟩ : ∃ n, out.length = n := ⟨_, rfl⟩
          obtain ⟨css, hown0, hall⟩ := Hown.out.own
          have Hall := Lib.hid hall
          have hown1 : Own wo _ cap' g 24 3 out.length css.flatten := hown0
          have Hgo3 := Lib.hid (Hb3.out he (by first | rfl | trivial))
          have hnb : out.length ≤ 1073741000 := by have := Hol.out; omega
          rw [hn] at hown1 hnb
          have Hn := Lib.hid hn
          have Hown1 := Lib.hid hown1
          have hz2' := hbw
          clear hown0 hall hown1 he
          rw [hn]
          clear hn
          go_wp2_with (first
            | (go_at_call 31; refine (HO.out _).mono ?_; rintro e w2 ⟨rfl, hB2⟩; have hz2 := hB2.size; have HB2 := Lib.hid hB2; clear hB2)
            | (at_builtin; refine wpList_app rfl (.tmp 35) (.tmp 37) 53 53 rfl hE (((Hown1.out.ext HB2.out).alloc _).alloc _) rfl rfl (srcManyE Try.underlying53 _ _ _ _ 3 _ (by simp) rfl (by simp [Value.oneCell'])) (by simp [maxLen]; omega) (by omega) ?_; intro ao3 cap3 g3 W3 ho3 hg3 hon3; have Ho3 := Lib.hid ho3; have Hg3 := Lib.hid hg3; have Hon3 := Lib.hid hon3; clear ho3 hg3 hon3))
          have hBa := (HB2.out.alloc (by omega) (.cells #[.int .u32 (x0 : Nat), .int .u32 (x1 : Nat), .int .u32 (x2 : Nat)] 24)).alloc (by simp; omega) (.cells #[.int .u32 (x0 : Nat), .int .u32 (x1 : Nat), .int .u32 (x2 : Nat)] 24)
          have hon : Only (fun k => g = some k) wo W3 := (Only.of_below hBa).trans Hon3.out (fun _ _ h => h)
          have hS : OwnS edgeRep (fun _ => False) W3 ao3 cap3 g3 24 (out ++ [(x0, x1, x2)]) := OwnS.snoc (w := wo) Hall.out (edgeRep_ok (Hb4.out (by first | rfl | trivial))) (by rw [Hn.out]; exact Ho3.out) (fun b hb _ => hb.elim) hon.size
          have hgl := How.out.lt
          refine ⟨⟨k + 1, out ++ [(x0, x1, x2)], ao3, cap3, g3, by omega, by go_num, by simp [Hn.out], by have := Hol.out; simp; omega, Hgo3.out, hS, fun b h => ?_, How.out.only hon (fun b hb e => (Hg.out b e).2 hb), HB.out.trans (hon.below (by omega) (fun b hb e => by have := (Hg.out b e).1; omega))⟩, by simp [intOf]; omega⟩
          rcases Hg3.out with e | e
          · exact Hg.out b (e ▸ h)
          · rw [e] at h
            cases h
            exact ⟨by simp; omega, fun e2 => by have := hgl _ e2; simp at this; omega⟩
      · have hd1 : ((er : Int) != 0) = true := by simp; omega
        go_wp2_with (go_at_call 31; refine (HO.out _).mono ?_; rintro e w2 ⟨rfl, hB2⟩; have HB2 := Lib.hid hB2; clear hB2)
        refine bodyPost_ret (v := .tuple #[.slice (some ⟨w2.heap.size + 1, 0, none⟩) 0 0, .int .i64 ((k + 1 : Nat) : Int), .int .i64 (er : Nat)]) (by simp [results, Try.results33, go_sem]) rfl ?_
        rw [Hb1.out he]
        exact ⟨_, 0, rfl, Nat.le_refl _, by simp [maxLen], .inl rfl, ext_trans HB.out ((HB2.out.alloc (by have := HB2.out.size; omega) _).alloc (by have := HB2.out.size; simp; omega) _)⟩
    · obtain rfl : k = ls.length := by omega
      rw [List.drop_length] at hgo
      have Hgo := Lib.hid (show readE ls = (out, 0, 0) from hgo.symm)
      clear hgo hown hg hB how hol
      go_wp2_with fail
      refine bodyPost_ret (v := .tuple #[.slice ao' out.length cap', .int .i64 0, .int .i64 0]) (by simp [results, Try.results33, go_sem]) rfl ?_
      rw [Hgo.out]
      exact ⟨_, _, rfl, Hown.out.capLe.1, Hown.out.capLe.2, Hown.out.rd.mono (fun b hb _ => hb.elim (fun h => h.elim) (fun h => (Hg.out b h).1)), HB.out⟩

/-- Same, of one list read twice -/
theorem RdS.edge {fp : Nat → Prop} {w : World} {ao : Option Addr} {l : List EdgeD} (h : RdS edgeRep fp w ao l) (k : Nat) (hk : k < l.length) :
    ∃ b off, ao = some ⟨b, off, none⟩ ∧ b < w.heap.size ∧ w.cell? ⟨b, off + k * 3, none⟩ = some (.int .u32 (l[k].1 : Nat)) ∧ w.cell? ⟨b, off + k * 3 + 1, none⟩ = some (.int .u32 (l[k].2.1 : Nat)) ∧ w.cell? ⟨b, off + k * 3 + 2, none⟩ = some (.int .u32 (l[k].2.2 : Nat)) ∧ okE l[k] := by
  obtain ⟨b, off, cs, rfl, _, hb, ⟨c, d, rfl, ⟨rfl, h1⟩, c2, d2, rfl, ⟨rfl, h2⟩, ⟨rfl, h3⟩⟩, hc⟩ := h.at k hk
  exact ⟨b, off, rfl, hb, hc 0 (by decide), hc 1 (by decide), hc 2 (by decide), h1, h2, h3⟩
def esameI (n : Nat) (w : World) (i : Value) (wr : World) : Prop := ∃ k m : Nat, k ≤ n ∧ i = .int .i64 (k : Nat) ∧ wr = w.drewN m

set_option maxRecDepth 100000 in
set_option maxHeartbeats 1600000 in
theorem esame_any (l : List EdgeD) (ao bo : Option Addr) (ca cb : Nat) (fa fb : Nat → Prop) (w : World) (hl : l.length ≤ 1073741824) (ha : RdS edgeRep fa w ao l) (hb : RdS edgeRep fb w bo l) :
    Calls Try.prog 34 #[.slice ao l.length ca, .slice bo l.length cb] w fun e w' => e = .returned (.bool true) ∧ Below w.heap.size w w' := by
  have hne : ((l.length : Int) != (l.length : Int)) = false := by simp
  have Ha := Lib.hid ha
  have Hb := Lib.hid hb
  clear ha hb
  go_enter Try.func34, Try.ntmps34
  go_wp2_with fail
  go_loopw [5, 13] (fun v i wr => esameI l.length w i wr) (fun _ i _ => l.length - (intOf i).toNat)
  case atStart => exact ⟨0, 0, by omega, rfl, rfl⟩
  case round =>
    obtain ⟨k, m, hk, rfl, rfl⟩ := hrel
    by_cases hlt : k < l.length
    · obtain ⟨ba, oa, rfl, hba, a0, a1, a2, _⟩ := Ha.out.edge k hlt
      obtain ⟨bb, ob, rfl, hbb, b0, b1, b2, _⟩ := Hb.out.edge k hlt
      have hir : (k : Int) < (l.length : Int) := by omega
      generalize l[k] = x at a0 a1 a2 b0 b1 b2
      obtain ⟨x0, x1, x2⟩ := x
      simp only at a0 a1 a2 b0 b1 b2
      go_wp2_with fail
      go_quiet (fail)
      go_wp2_with fail
      exact ⟨⟨k + 1, _, by omega, by go_num, rfl⟩, by simp [intOf]; omega⟩
    · obtain rfl : k = l.length := by omega
      go_wp2_with fail
      go_ret
      exact ⟨rfl, ext_drewN _ _⟩
end Go.Proofs.Ytafbjkbdfdeacaa
