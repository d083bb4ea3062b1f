/- The iterator behind text.Words: a line's words. -/
import Derived.Test.YtafbjkbdfdeacaaTextLib
import Derived.RegionIn
namespace Go.Proofs.Ytafbjkbdfdeacaa
set_option linter.unusedSimpArgs false
set_option linter.unusedVariables false
open Go.RowKit

/-- the length of a text in a cell -/
def strLen : Option Value → Nat
  | some (.string s) => s.size
  | _ => 0

theorem isSp_or (d : UInt8) : isSp d = false ↔ (d == 32) = false ∧ (d == 9) = false := by
  unfold isSp; cases d == 32 <;> cases d == 9 <;> simp

theorem cutCase (rem : List UInt8) :
    (firstIdx (bs rem) 32 = -1 ∧ firstIdx (bs rem) 9 = -1 ∧ ∀ d ∈ rem, isSp d = false) ∨
    ∃ p c r, rem = p ++ c :: r ∧ isSp c = true ∧ (∀ d ∈ p, isSp d = false) ∧
      ((firstIdx (bs rem) 9 = p.length ∧ firstIdx (bs rem) 32 = -1) ∨ (firstIdx (bs rem) 9 = p.length ∧ (p.length : Int) < firstIdx (bs rem) 32) ∨
       (firstIdx (bs rem) 32 = p.length ∧ firstIdx (bs rem) 9 = -1) ∨ (firstIdx (bs rem) 32 = p.length ∧ (p.length : Int) < firstIdx (bs rem) 9)) := by
  have h1 := firstIdx_spec (bs rem) 32
  have h2 := firstIdx_spec (bs rem) 9
  rw [bs_data, bs_size] at h1 h2
  have cut : ∀ (c : UInt8) (i : Nat), i < rem.length → rem[i]? = some c → rem = rem.take i ++ c :: rem.drop (i + 1) := by
    intro c i hi hc
    rw [List.getElem?_eq_getElem hi] at hc
    conv => lhs; rw [← List.take_append_drop i rem, List.drop_eq_getElem_cons hi, Option.some.inj hc]
  have sub : ∀ (i j : Nat) (d : UInt8), i ≤ j → d ∈ rem.take i → d ∈ rem.take j := by
    intro i j d hij hd
    rw [show rem.take i = (rem.take j).take i from by rw [List.take_take, Nat.min_eq_left hij]] at hd
    exact List.mem_of_mem_take hd
  rcases h1 with ⟨e1, a1⟩ | ⟨i, e1, l1, c1, a1⟩
  · rcases h2 with ⟨e2, a2⟩ | ⟨j, e2, l2, c2, a2⟩
    · exact .inl ⟨e1, e2, fun d hd => (isSp_or d).2 ⟨a1 d hd, a2 d hd⟩⟩
    · refine .inr ⟨rem.take j, 9, rem.drop (j + 1), cut 9 j l2 c2, rfl, fun d hd => (isSp_or d).2 ⟨a1 d (List.mem_of_mem_take hd), a2 d hd⟩, .inl ⟨?_, e1⟩⟩
      rw [e2, List.length_take, Nat.min_eq_left (by omega)]
  · rcases h2 with ⟨e2, a2⟩ | ⟨j, e2, l2, c2, a2⟩
    · refine .inr ⟨rem.take i, 32, rem.drop (i + 1), cut 32 i l1 c1, rfl, fun d hd => (isSp_or d).2 ⟨a1 d hd, a2 d (List.mem_of_mem_take hd)⟩, .inr (.inr (.inl ⟨?_, e2⟩))⟩
      rw [e1, List.length_take, Nat.min_eq_left (by omega)]
    · rcases Nat.lt_trichotomy i j with h | h | h
      · refine .inr ⟨rem.take i, 32, rem.drop (i + 1), cut 32 i l1 c1, rfl, fun d hd => (isSp_or d).2 ⟨a1 d hd, a2 d (sub i j d (by omega) hd)⟩, .inr (.inr (.inr ⟨?_, ?_⟩))⟩
        · rw [e1, List.length_take, Nat.min_eq_left (by omega)]
        · rw [e2, List.length_take, Nat.min_eq_left (by omega)]; omega
      · subst h
        rw [c1] at c2
        cases c2
      · refine .inr ⟨rem.take j, 9, rem.drop (j + 1), cut 9 j l2 c2, rfl, fun d hd => (isSp_or d).2 ⟨a1 d (sub j i d (by omega) hd), a2 d hd⟩, .inr (.inl ⟨?_, ?_⟩)⟩
        · rw [e2, List.length_take, Nat.min_eq_left (by omega)]
        · rw [e1, List.length_take, Nat.min_eq_left (by omega)]; omega

def eachRel (b : Nat) (l : List UInt8) (J : List (List UInt8) → (Nat → Prop) → World → Prop) (fp : Nat → Prop) (W wr : World) : Prop :=
  ∃ (pre : List (List UInt8)) (fp1 : Nat → Prop) (rem : List UInt8), words l = pre ++ words rem ∧ wr.cell? ⟨b, 0, none⟩ = some (.string (bs rem)) ∧ wr.frozen? ⟨b, 0, none⟩ = false ∧ J pre fp1 wr ∧ Fwd (fun k => fp k ∨ k = b) fp1 W wr ∧ (∀ k, fp1 k → fp k ∨ W.heap.size ≤ k) ∧ rem.length ≤ 9223372036854775807

theorem eachRel_step {b : Nat} {l r : List UInt8} {J : List (List UInt8) → (Nat → Prop) → World → Prop} {fp fp1 : Nat → Prop} {W wr : World} {pre : List (List UInt8)} {u : Value}
    (hb : b < W.heap.size) (hfb : ¬ fp b) (hJ : ∀ pre fp A B, J pre fp A → Stays fp A B → J pre fp B) (hw : words l = pre ++ words r) (hj : J pre fp1 wr) (hfw : Fwd (fun k => fp k ∨ k = b) fp1 W wr)
    (hfo : ∀ k, fp1 k → fp k ∨ W.heap.size ≤ k) (hc : wr.cell? ⟨b, 0, none⟩ = some u) (hf : wr.frozen? ⟨b, 0, none⟩ = false) (hlr : r.length ≤ 9223372036854775807) : eachRel b l J fp W (wr.setCell ⟨b, 0, none⟩ (.string (bs r))) := by
  have hn : ¬ fp1 b := fun h => (hfo b h).elim hfb (fun h => by omega)
  refine ⟨pre, fp1, r, hw, by simp [cell_set_ite, hc], by simp [hf], hJ _ _ _ _ hj ⟨rfl, rfl, rfl, by simp [World.setCell], fun k hk => Below.heap_setCell _ _ _ _ (fun e => hn (by have e' : k = b := e; subst e'; exact hk))⟩, ⟨hfw.only.setCell (fun _ => .inr rfl) _, fun k hk => ⟨(hfw.own k hk).1, by simpa using (hfw.own k hk).2⟩⟩, hfo, hlr⟩

theorem eachRel_drew {b : Nat} {l : List UInt8} {J : List (List UInt8) → (Nat → Prop) → World → Prop} {fp : Nat → Prop} {W wr : World}
    (hJ : ∀ pre fp A B, J pre fp A → Stays fp A B → J pre fp B) (h : eachRel b l J fp W wr) : eachRel b l J fp W wr.drew := by
  obtain ⟨pre, fp1, rem, hw, hc, hf, hj, hfw, hfo, hlr⟩ := h
  exact ⟨pre, fp1, rem, hw, hc, hf, J_ext hJ hj (fun k hk => (hfw.own k hk).2) (ext_drew _), hfw.ext (ext_drew _), hfo, hlr⟩

attribute [local go_sem] Oper.semAt_some

set_option maxRecDepth 100000 in
set_option maxHeartbeats 1600000 in
theorem each_iter (b : Nat) (l : List UInt8) (hl : l.length ≤ 9223372036854775807) :
    Iter Try.prog 67 #[.pointer (some ⟨b, 0, none⟩)] (fun x : List UInt8 => #[.string (bs x)]) (fun pre => pre <+: words l) (fun xs => xs = words l) (fun _ => True) (fun _ _ _ => True)
      (fun W => W.cell? ⟨b, 0, none⟩ = some (.string (bs l)) ∧ W.frozen? ⟨b, 0, none⟩ = false) (fun k => k = b) := by
  rintro ly J Jx fp W ⟨hc, hf⟩ hfp hJ hJx _ hY h0
  have hb : b < W.heap.size := World.block_lt_of_cell? W _ hc
  have HJ := Lib.hid hJ
  have HJx := Lib.hid hJx
  have HY := Lib.hid hY
  have H0 : Hid (eachRel b l J fp W W) := ⟨[], fp, l, by simp, hc, hf, h0, (Fwd.refl (fun k hk => (hfp k hk).1)).wider (fun k hk => .inl hk), fun k hk => .inl hk, hl⟩
  have Hfp := Lib.hid hfp
  clear hJ hJx hY h0 hfp hc hf
  refine callsIn_of_wp Try.func67 rfl trivial ?_
  simp only [Try.ntmps67, List.size_toArray, List.length_cons, List.length_nil, Nat.reduceAdd, Nat.reduceSub, Array.replicate_succ, Array.replicate_zero, List.push_toArray, List.append_toArray, List.nil_append, List.cons_append]
  gi_wp2_with fail
  gi_loopw [] (fun wr => eachRel b l J fp W wr) (fun wr => strLen (wr.cell? ⟨b, 0, none⟩))
  case atStart => exact H0.out
  case round =>
    obtain ⟨pre, fp1, rem, hw, hc, hf, hj, hfw, hfo, hlr⟩ := hrel
    have Hw := Lib.hid hw
    have Hj := Lib.hid hj
    have Hfw := Lib.hid hfw
    have Hfo := Lib.hid hfo
    clear hw hj hfw hfo
    by_cases hrem : rem = []
    · subst hrem
      have he : (bs []).toList = [] := by simp [bs]
      have he2 : (bs []).toList.isEmpty = true := by simp [bs]
      gi_wp2_with fail
      go_end0
      exact ⟨⟨_, rfl⟩, pre, fp1, Hfw.out, Hfo.out, .inl ⟨by rw [Hw.out]; simp [words, wordsGo], Hj.out⟩⟩
    · have hne : (bs rem).toList.isEmpty = false := bs_ne hrem
      have ix := fun c => indexByte_any (bs rem) c
      obtain ⟨h1, h2, hns⟩ | ⟨p, c, r, hr, hsp, hns, hi⟩ := cutCase rem
      · have hY := HY.out pre fp1 rem wr Hj.out (fun k hk => (Hfw.out.own k hk).2) Hfw.out.only (by rw [Hw.out, words_last rem hns, if_neg hrem]; exact List.prefix_refl _) trivial
        obtain ⟨fn, tmps, assign, body, hy, hR⟩ := hY
        have HR := Lib.hid hR
        have Hns := Lib.hid hns
        clear hR hns
        gi_wp2_with (gi_at_call 68; refine (callsIn_wide.2 (ix _ _)).mono ?_; rintro e w' ⟨rfl, rfl⟩)
        refine HR.out.mono ?_
        clear hy HR
        rintro e W2 ⟨fp2, hfw2, (⟨rfl, hj2⟩ | ⟨rfl, hjx2⟩)⟩
        · have hn1 : ¬ fp1 b := fun h => (Hfo.out b h).elim (fun h => (Hfp.out b h).2 rfl) (fun h => by omega)
          have hbr : b < wr.heap.size := World.block_lt_of_cell? wr _ hc
          have hc2 : W2.cell? ⟨b, 0, none⟩ = some (.string (bs rem)) := (hfw2.only.cell hbr hn1 0).trans hc
          have hf2 : W2.frozen? ⟨b, 0, none⟩ = false := (hfw2.only.frozen hbr hn1 0).trans hf
          have Hrel : Hid (eachRel b l J fp W (W2.setCell ⟨b, 0, none⟩ (.string (bs [])))) :=
            eachRel_step hb (fun h => (Hfp.out b h).2 rfl) HJ.out (by rw [Hw.out, words_last rem Hns.out, if_neg hrem]; simp [words, wordsGo]) hj2 (Hfw.out.trans hfw2)
              (fun k hk => ((hfw2.own k hk).1).elim (Hfo.out k) (fun h => .inr (Nat.le_trans Hfw.out.only.size h))) hc2 hf2 (by simp)
          have Hj2 := Lib.hid hj2
          have Hfw2 := Lib.hid hfw2
          clear hj2 hfw2
          gi_wp2
          go_roundw
          case rel => exact Hrel.out
          case measure => simp [cell_set_ite, hc2, hc, strLen, bs_size]; exact List.length_pos_iff.2 hrem
        · gi_wp2
          refine bodyPost_ret (results_none rfl _ _ _) rfl ?_
          have hok : pre ++ [rem] <+: words l := by rw [Hw.out, words_last rem Hns.out, if_neg hrem]; exact List.prefix_refl _
          exact ⟨⟨_, rfl⟩, pre ++ [rem], fp2, Hfw.out.trans hfw2, (fun k hk => ((hfw2.own k hk).1).elim (Hfo.out k) (fun h => .inr (Nat.le_trans Hfw.out.only.size h))), .inr ⟨hok, hjx2⟩⟩
      · subst hr
        have hlen : (p ++ c :: r).length = p.length + 1 + r.length := by simp; omega
        have hpl : (p.length : Int) + 1 + r.length ≤ 9223372036854775807 := by rw [hlen] at hlr; omega
        have hrl : r.length ≤ 9223372036854775807 := by omega
        have hsz : (bs (p ++ c :: r)).size = p.length + 1 + r.length := by rw [bs_size, hlen]
        have hx1 : (bs (p ++ c :: r)).extract 0 p.length = bs p := by rw [bs_extract, bs_data]; simp
        have hx2 : (bs (p ++ c :: r)).extract (p.length + 1) (p.length + 1 + r.length) = bs r := by
          rw [bs_extract, bs_data]
          congr 1
          rw [show p ++ c :: r = (p ++ [c]) ++ r from by simp, show p.length + 1 = (p ++ [c]).length from by simp, List.drop_left]
          exact List.take_of_length_le (by simp)
        have Hns := Lib.hid hns
        clear hns
        rcases hi with ⟨h9, h32⟩ | ⟨h9, h32⟩ | ⟨h32, h9⟩ | ⟨h32, h9⟩
        all_goals
          gi_wp2_with (gi_at_call 68; refine (callsIn_wide.2 (ix _ _)).mono ?_; rintro e w' ⟨rfl, rfl⟩)
          gi_region
          by_cases hp0 : p = []
          · have hw2 : words l = pre ++ words r := by rw [Hw.out, words_cut p r c hsp Hns.out, if_pos hp0]
            have Hrel := Lib.hid (eachRel_drew HJ.out (eachRel_step (r := r) hb (fun h => (Hfp.out b h).2 rfl) HJ.out hw2 Hj.out Hfw.out Hfo.out hc hf hrl))
            have he : (bs p).toList = [] := by simp [bs, hp0]
            have he2 : (bs p).toList.isEmpty = true := by simp [bs, hp0]
            clear hw2 hp0
            gi_wp2
            go_roundw
            case rel => exact Hrel.out
            case measure => simp [cell_set_ite, hc, strLen, bs_size]; omega
          · have hnp : (bs p).toList.isEmpty = false := bs_ne hp0
            have hw2 : words l = (pre ++ [p]) ++ words r := by rw [Hw.out, words_cut p r c hsp Hns.out, if_neg hp0]; simp
            have hj1 : J pre fp1 wr.drew := J_ext HJ.out Hj.out (fun k hk => (Hfw.out.own k hk).2) (ext_drew _)
            have hfw1 : Fwd (fun k => fp k ∨ k = b) fp1 W wr.drew := Hfw.out.ext (ext_drew _)
            obtain ⟨fn, tmps, assign, body, hy, hR⟩ := HY.out pre fp1 p wr.drew hj1 (fun k hk => (hfw1.own k hk).2) hfw1.only (by rw [hw2]; exact List.prefix_append _ _) trivial
            have HR := Lib.hid hR
            have Hw2 := Lib.hid hw2
            have Hfw1 := Lib.hid hfw1
            clear hR hj1 hw2 hfw1
            gi_wp2
            refine HR.out.mono ?_
            clear hy HR
            rintro e W2 ⟨fp2, hfw2, (⟨rfl, hj2⟩ | ⟨rfl, hjx2⟩)⟩
            · have hn1 : ¬ fp1 b := fun h => (Hfo.out b h).elim (fun h => (Hfp.out b h).2 rfl) (fun h => by omega)
              have hbr : b < wr.heap.size := World.block_lt_of_cell? wr _ hc
              have hc2 : W2.cell? ⟨b, 0, none⟩ = some (.string (bs (p ++ c :: r))) := (hfw2.only.cell hbr hn1 0).trans hc
              have hf2 : W2.frozen? ⟨b, 0, none⟩ = false := (hfw2.only.frozen hbr hn1 0).trans hf
              have Hrel : Hid (eachRel b l J fp W (W2.setCell ⟨b, 0, none⟩ (.string (bs r)))) :=
                eachRel_step hb (fun h => (Hfp.out b h).2 rfl) HJ.out Hw2.out hj2 (Hfw1.out.trans hfw2)
                  (fun k hk => ((hfw2.own k hk).1).elim (Hfo.out k) (fun h => .inr (Nat.le_trans Hfw1.out.only.size h))) hc2 hf2 hrl
              have Hj2 := Lib.hid hj2
              have Hfw2 := Lib.hid hfw2
              clear hj2 hfw2
              gi_wp2
              go_roundw
              case rel => exact Hrel.out
              case measure => simp [cell_set_ite, hc2, hc, strLen, bs_size]; omega
            · gi_wp2
              refine bodyPost_ret (results_none rfl _ _ _) rfl ?_
              exact ⟨⟨_, rfl⟩, pre ++ [p], fp2, Hfw1.out.trans hfw2, (fun k hk => ((hfw2.own k hk).1).elim (Hfo.out k) (fun h => .inr (Nat.le_trans Hfw1.out.only.size h))), .inr ⟨by rw [Hw2.out]; exact List.prefix_append _ _, hjx2⟩⟩
end Go.Proofs.Ytafbjkbdfdeacaa
