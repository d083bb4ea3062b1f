/- palmerref28: Few, May, Recs. -/
import Derived.Test.YtbleacpdobjdaaaRefTold
namespace Go.Proofs.Ytbleacpdobjdaaa
set_option linter.unusedSimpArgs false
set_option linter.unusedVariables false
open Go.RowKit

/-- up to 60 paths of 60 vertices -/
def FewP (l : List PathD) : Prop := l.length ≤ 60 ∧ ∀ j (h : j < l.length), l[j].2.length ≤ 60
/-- each path has a vertex, the numbers rise -/
def okAt (l : List PathD) (j : Nat) : Prop := ∃ h : j < l.length, l[j].2.length ≠ 0 ∧ ∀ h0 : 0 < j, (l[j - 1]'(by omega)).1 < l[j].1
def MayP (l : List PathD) : Prop := ∀ j, j < l.length → okAt l j
open Classical in
noncomputable def fewB (l : List PathD) : Bool := decide (FewP l)
open Classical in
noncomputable def mayB (l : List PathD) : Bool := decide (MayP l)

open Classical in
theorem fewB_no {l : List PathD} (h : ¬ FewP l) : fewB l = false := by unfold fewB; exact decide_eq_false h
open Classical in
theorem fewB_yes {l : List PathD} (h : FewP l) : fewB l = true := by unfold fewB; exact decide_eq_true h
open Classical in
theorem mayB_no {l : List PathD} (h : ¬ MayP l) : mayB l = false := by unfold mayB; exact decide_eq_false h
open Classical in
theorem mayB_yes {l : List PathD} (h : MayP l) : mayB l = true := by unfold mayB; exact decide_eq_true h
def fewI (l : List PathD) (w : World) (i : Value) (wr : World) : Prop := ∃ k : Nat, k ≤ l.length ∧ i = .int .i64 (k : Nat) ∧ (∀ j (h : j < l.length), j < k → l[j].2.length ≤ 60) ∧ wr = w

set_option maxRecDepth 100000 in
set_option maxHeartbeats 1600000 in
theorem few_any (l : List PathD) (ao : Option Addr) (cap : Nat) (fp : Nat → Prop) (w : World) (hrd : RdS pathRep fp w ao l) :
    Calls Try.prog 34 #[.slice ao l.length cap] w fun e w' => e = .returned (.bool (fewB l)) ∧ w = w' := by
  have Hrd := Lib.hid hrd
  clear hrd
  by_cases hl : 60 < l.length
  · have hd : decide ((60 : Int) < l.length) = true := by simp; omega
    have hb := Lib.hid (show fewB l = false from fewB_no (fun h => by have := h.1; omega))
    go_enter Try.func34, Try.ntmps34
    go_wp2_with fail
    go_ret
    exact ⟨by rw [hb.out]; rfl, rfl⟩
  · have hd : decide ((60 : Int) < l.length) = false := by simp; omega
    go_enter Try.func34, Try.ntmps34
    go_wp2_with fail
    go_loopw [9] (fun i wr => fewI l w i wr) (fun i _ => l.length - (intOf i).toNat)
    case atStart => exact ⟨0, by omega, rfl, fun j h h0 => by omega, rfl⟩
    case round =>
      obtain ⟨k, hk, rfl, hall, rfl⟩ := hrel
      have Hall := Lib.hid hall
      clear hall
      by_cases hlt : k < l.length
      · obtain ⟨b, off, ap, cp, rfl, hb, hc0, hc1, _, _, _⟩ := Hrd.out.path k hlt
        have hir : (k : Int) < (l.length : Int) := by omega
        clear hc0
        by_cases hbig : 60 < l[k].2.length
        · have hf := Lib.hid (show fewB l = false from fewB_no (fun h => by have := h.2 k hlt; omega))
          have hd2 : decide ((60 : Int) < l[k].2.length) = true := by simp; omega
          generalize l[k].2.length = n at hc1 hd2 hbig
          go_wp2_with fail
          go_ret
          exact ⟨by rw [hf.out]; rfl, rfl⟩
        · have hd2 : decide ((60 : Int) < l[k].2.length) = false := by simp; omega
          have Hle := Lib.hid (show l[k].2.length ≤ 60 by omega)
          generalize l[k].2.length = n at hc1 hd2 hbig
          go_wp2_with fail
          go_roundw
          case rel =>
            refine ⟨k + 1, by omega, by go_num, fun j h hj => ?_, rfl⟩
            by_cases hjk : j < k
            · exact Hall.out j h hjk
            · obtain rfl : j = k := by omega
              exact Hle.out
          case measure => simp [intOf]; omega
      · obtain rfl : k = l.length := by omega
        have hb := Lib.hid (show fewB l = true from fewB_yes ⟨by omega, fun j h => Hall.out j h h⟩)
        go_wp2_with fail
        go_ret
        exact ⟨by rw [hb.out]; rfl, rfl⟩

def mayI (l : List PathD) (w : World) (i : Value) (wr : World) : Prop := ∃ k m : Nat, k ≤ l.length ∧ i = .int .i64 (k : Nat) ∧ (∀ j, j < k → okAt l j) ∧ wr = w.drewN m

set_option maxRecDepth 100000 in
set_option maxHeartbeats 1600000 in
theorem may_any (l : List PathD) (ao : Option Addr) (cap : Nat) (fp : Nat → Prop) (w : World) (hl : l.length ≤ 1073741824) (hrd : RdS pathRep fp w ao l) :
    Calls Try.prog 35 #[.slice ao l.length cap] w fun e w' => e = .returned (.bool (mayB l)) ∧ ∃ m, w' = w.drewN m := by
  have Hrd := Lib.hid hrd
  clear hrd
  go_enter Try.func35, Try.ntmps35
  go_wp2_with fail
  go_loopw [6] (fun i wr => mayI l w i wr) (fun i _ => l.length - (intOf i).toNat)
  case atStart => exact ⟨0, 0, by omega, rfl, fun j h => by omega, rfl⟩
  case round =>
    obtain ⟨k, m, hk, rfl, hall, rfl⟩ := hrel
    have Hall := Lib.hid hall
    clear hall
    by_cases hlt : k < l.length
    · obtain ⟨b, off, ap, cp, rfl, hb, hc0, hc1, _, hv, _⟩ := Hrd.out.path k hlt
      have hir : (k : Int) < (l.length : Int) := by omega
      by_cases h0 : l[k].2.length = 0
      · have hf := Lib.hid (show mayB l = false from mayB_no (fun h => by obtain ⟨_, h, _⟩ := h k hlt; exact h h0))
        have hd : ((l[k].2.length : Int) == 0) = true := by simp [h0]
        clear h0
        generalize l[k].2.length = n at hc1 hd
        generalize l[k].1 = u at hc0
        go_wp2_with fail
        go_quiet (fail)
        go_wp2_with fail
        go_ret
        exact ⟨by rw [hf.out]; rfl, _, World.drewN_drewN _ _ _⟩
      · have hd : ((l[k].2.length : Int) == 0) = false := beq_eq_false_iff_ne.2 (by omega)
        by_cases hk0 : k = 0
        · have Hok := Lib.hid (show okAt l k from ⟨hlt, h0, fun h => by omega⟩)
          clear h0
          generalize l[k].2.length = n at hc1 hd
          generalize l[k].1 = u at hc0
          subst hk0
          go_wp2_with fail
          go_quiet (fail)
          go_wp2_with fail
          go_roundw
          case rel =>
            refine ⟨0 + 1, _, by omega, by go_num, fun j hj => ?_, rfl⟩
            obtain rfl : j = 0 := by omega
            exact Hok.out
          case measure => simp [intOf]; omega
        · obtain ⟨i, rfl⟩ : ∃ i, k = i + 1 := ⟨k - 1, by omega⟩
          obtain ⟨b', off', ap', cp', e, hb', hc0', hc1', _, hv', _⟩ := Hrd.out.path i (by omega)
          cases e
          generalize hu1 : l[i + 1].1 = u1 at hc0 hv
          generalize hu0 : l[i].1 = u0 at hc0' hv'
          clear hc1'
          by_cases hlu : u0 < u1
          · have hd2 : decide (((u1 : Nat) : Int) ≤ u0) = false := by simp; omega
            have hd3 : decide (u1 ≤ u0) = false := by simp; omega
            have Hok := Lib.hid (show okAt l (i + 1) from ⟨hlt, h0, fun h => by simp only [Nat.add_sub_cancel]; omega⟩)
            have hi1 : (((i + 1 : Nat) : Int)) - 1 = i := by omega
            have hg : decide ((0 : Int) < ((i + 1 : Nat) : Int)) = true := decide_eq_true (by omega)
            clear h0 hu0 hu1
            generalize l[i + 1].2.length = n at hc1 hd
            go_wp2_with fail
            go_quiet (fail)
            go_wp2_with fail
            go_roundw
            case rel =>
              refine ⟨i + 1 + 1, _, by omega, by go_num, fun j hj => ?_, rfl⟩
              by_cases hji : j < i + 1
              · exact Hall.out j hji
              · obtain rfl : j = i + 1 := by omega
                exact Hok.out
            case measure => simp [intOf]; omega
          · have hf := Lib.hid (show mayB l = false from mayB_no (fun h => by obtain ⟨_, _, h⟩ := h (i + 1) hlt; have := h (by omega); simp only [Nat.add_sub_cancel] at this; rw [hu0, hu1] at this; omega))
            have hd2 : decide (((u1 : Nat) : Int) ≤ u0) = true := by simp; omega
            have hd3 : decide (u1 ≤ u0) = true := by simp; omega
            have hi1 : (((i + 1 : Nat) : Int)) - 1 = i := by omega
            have hg : decide ((0 : Int) < ((i + 1 : Nat) : Int)) = true := decide_eq_true (by omega)
            clear h0 hu0 hu1
            generalize l[i + 1].2.length = n at hc1 hd
            go_wp2_with fail
            go_quiet (fail)
            go_wp2_with fail
            go_ret
            exact ⟨by rw [hf.out]; rfl, _, World.drewN_drewN _ _ _⟩
    · obtain rfl : k = l.length := by omega
      have hb := Lib.hid (show mayB l = true from mayB_yes (fun j h => Hall.out j h))
      go_wp2_with fail
      go_ret
      exact ⟨by rw [hb.out]; rfl, m, rfl⟩

def pieces (id : Nat) : Nat → List Nat → List (List UInt8)
  | _, [] => []
  | k, v :: vs => key3 id k v :: pieces id (k + 1) vs
def recsOf (l : List PathD) : List (List UInt8) := l.flatMap (fun p => pieces p.1 0 p.2)
theorem pieces_len (id : Nat) : ∀ (vs : List Nat) (k : Nat), (pieces id k vs).length = vs.length
  | [], _ => rfl
  | v :: vs, k => by simp [pieces, pieces_len id vs]
theorem pieces_snoc (id v : Nat) : ∀ (vs : List Nat) (k : Nat), pieces id k (vs ++ [v]) = pieces id k vs ++ [key3 id (k + vs.length) v]
  | [], _ => rfl
  | u :: vs, k => by simp [pieces, pieces_snoc id v vs, Nat.add_assoc, Nat.add_comm 1]
theorem recsOf_take (l : List PathD) (k : Nat) (h : k < l.length) : recsOf (l.take (k + 1)) = recsOf (l.take k) ++ pieces l[k].1 0 l[k].2 := by
  unfold recsOf; rw [take_next l k h, List.flatMap_append]; simp only [List.flatMap_cons, List.flatMap_nil, List.append_nil]
theorem recsOf_len : ∀ (l : List PathD), (∀ p ∈ l, p.2.length ≤ 60) → (recsOf l).length ≤ 60 * l.length
  | [], _ => by simp [recsOf]
  | p :: l, h => by
    have h1 := recsOf_len l (fun q hq => h q (List.mem_cons_of_mem _ hq))
    have h2 := h p (List.mem_cons_self ..)
    have h3 := pieces_len p.1 p.2 0
    simp only [recsOf, List.flatMap_cons, List.length_append, List.length_cons] at h1 ⊢
    omega
theorem FewP.rows {l : List PathD} (h : FewP l) : ∀ p ∈ l, p.2.length ≤ 60 := fun p hp => by
  obtain ⟨j, hj, rfl⟩ := List.mem_iff_getElem.1 hp
  exact h.2 j hj
theorem FewP.take {l : List PathD} (h : FewP l) (k : Nat) : FewP (l.take k) := ⟨by have := h.1; rw [List.length_take]; omega, fun j hj => by rw [List.getElem_take]; exact h.2 j (by rw [List.length_take] at hj; omega)⟩

/-- what a call that hands back records leaves -/
def RecsRet (L : List (List UInt8)) (w : World) (e : Ending) (w' : World) : Prop :=
  ∃ ao cap, e = .returned (.slice ao L.length cap) ∧ L.length ≤ cap ∧ cap ≤ maxLen ∧ RdS (Rep.slice Rep.u8) (fun k => w.heap.size ≤ k) w' ao L ∧ Below w.heap.size w w'
def recsI (w : World) (L : List (List UInt8)) (o : Value) (wr : World) : Prop :=
  ∃ (ao : Option Addr) (cap : Nat) (g : Option Nat) (fe : Nat → Prop), o = .slice ao L.length cap ∧ OwnS (Rep.slice Rep.u8) fe wr ao cap g 34 L ∧ (∀ b, fe b → w.heap.size ≤ b ∧ b < wr.heap.size ∧ g ≠ some b) ∧ (∀ b, g = some b → w.heap.size ≤ b) ∧ Below w.heap.size w wr
theorem recElem : Elem Try.prog 48 34 1 24 (.slice none 0 0) := Elem.mk' Try.underlying48 (by kernel_rfl) rfl (by decide)

/-- one record more -/
theorem recs_step {w W W1 W5 : World} {L : List (List UInt8)} {a1 ao5 : Option Addr} {c1 cap5 : Nat} {g g1 g5 : Option Nat} {fe : Nat → Prop} {r : List UInt8} {css : List (List Value)} (hB : Below w.heap.size w W)
    (hall : All2 (fun x cs => (Rep.slice Rep.u8).ok W fe x cs) L css) (hfe : ∀ b, fe b → w.heap.size ≤ b ∧ b < W.heap.size ∧ g ≠ some b) (hg : ∀ b, g = some b → w.heap.size ≤ b ∧ b < W.heap.size) (hr : r.length = 12)
    (ho1 : Own W1 a1 c1 g1 5 1 12 (byteVals r)) (hg1 : ∀ b, g1 = some b → W.heap.size ≤ b) (hB1 : Below W.heap.size W W1)
    (ho5 : Own W5 ao5 cap5 g5 34 1 (L.length + 1) (css.flatten ++ [.slice a1 12 c1])) (hg5 : ∀ b, g5 = some b → g = some b ∨ W1.heap.size ≤ b) (hon : Only (fun k => g = some k) W1 W5) :
    recsI w (L ++ [r]) (.slice ao5 (L.length + 1) cap5) W5 := by
  have hs1 := hB1.size
  have hs5 := hon.size
  have hs := hB.size
  have hfe2 : ∀ b, (fe b ∨ g1 = some b) → w.heap.size ≤ b ∧ b < W1.heap.size ∧ g ≠ some b := fun b hb => by
    rcases hb with h | h
    · have := hfe b h; exact ⟨this.1, by omega, this.2.2⟩
    · have h1 := hg1 b h
      exact ⟨by omega, ho1.lt b h, fun e => by have := (hg b e).2; omega⟩
  have hk : ∀ b, b < W.heap.size → g ≠ some b → W5.heap[b]? = W.heap[b]? := fun b hb hn => (hon.same b (by omega) hn).trans (hB1.block b hb)
  refine ⟨ao5, cap5, g5, fun b => fe b ∨ g1 = some b, by simp, ?_, fun b hb => ?_, fun b hb => (hg5 b hb).elim (fun h => (hg b h).1) (fun h => by omega), ?_⟩
  · refine OwnS.snoc (w := W) (forall2_imp (fun x cs h => (Rep.slice Rep.u8).mono h (fun b hb _ => .inl hb)) hall) (cs := [.slice a1 12 c1]) ?_ ho5 (fun b hb hl => hk b hl ?_) (by omega)
    · have ho1' := ho1.only hon (fun b hb => (hfe2 b (.inr hb)).2.2)
      refine ⟨a1, c1, by rw [hr], by rw [hr]; exact ho1'.capLe.1, ho1'.capLe.2, ?_⟩
      have h2 := rdS_u8 (l := r) (by rw [hr]; exact ho1')
      exact h2.mono (fun b hb _ => .inr hb)
    · exact (hfe2 b hb).2.2
  · have h1 := hfe2 b hb
    refine ⟨h1.1, by omega, fun e => ?_⟩
    rcases hg5 b e with h | h
    · exact h1.2.2 h
    · omega
  · exact (hB.trans (hB1.mono hs)).trans (hon.below (n := w.heap.size) (by omega) (fun k hk e => by have := (hg k e).1; omega))

set_option maxRecDepth 100000 in
set_option maxHeartbeats 3200000 in
theorem recs_any (l : List PathD) (ao : Option Addr) (cap : Nat) (w : World) (hf : FewP l) (hrd : RdS pathRep (fun b => b < w.heap.size) w ao l) :
    Calls Try.prog 36 #[.slice ao l.length cap] w (RecsRet (recsOf l) w) := by
  have Hrd := Lib.hid hrd
  have hE := recElem
  have hl := hf.1
  have Hf := Lib.hid hf
  clear hrd hf
  go_enter Try.func36, Try.ntmps36
  go_wp2_with fail
  go_loopw [3, 9] (fun o i wr => ∃ k : Nat, k ≤ l.length ∧ i = .int .i64 (k : Nat) ∧ recsI w (recsOf (l.take k)) o wr) (fun _ i _ => l.length - (intOf i).toNat)
  case atStart => exact ⟨0, by omega, rfl, _, 0, some w.heap.size, fun _ => False, rfl, ⟨[], Own.empty w _ _, .nil⟩, fun b h => h.elim, fun b h => by cases h; omega, ext_alloc w _⟩
  case round =>
    obtain ⟨k, hk, rfl, ⟨ao', cap', g, fe, rfl, hown, hfe, hg, hB⟩⟩ := hrel
    obtain ⟨wo, rfl⟩ : ∃ wo : World, wo = wr := ⟨_, rfl⟩
    by_cases hlt : k < l.length
    · obtain ⟨b, off, ap, cp, rfl, hb, hc0', hc1', hra, hv, hcp⟩ := Hrd.out.path k hlt
      have hc1 := ((bcell hB).1 _ _ hb).trans hc1'
      have htk := recsOf_take l k hlt
      have hvl := Hf.out.2 k hlt
      have hrl := recsOf_len (l.take k) (fun p hp => (Hf.out.take k).rows p hp)
      rw [List.length_take] at hrl
      obtain ⟨p, hpe⟩ : ∃ p, l[k] = p := ⟨_, rfl⟩
      rw [hpe] at hc0' hc1' hc1 hra hv htk hvl hcp
      have HC0 := Lib.hid hc0'
      have HC1 := Lib.hid hc1'
      have Hra := Lib.hid hra
      have Htk := Lib.hid htk
      have hir : (k : Int) < (l.length : Int) := by omega
      have HI := Lib.hid (show recsI w (recsOf (l.take k)) (.slice ao' (recsOf (l.take k)).length cap') wo from ⟨ao', cap', g, fe, rfl, hown, hfe, hg, hB⟩)
      clear hpe hc0' hc1' hra htk hown hfe hg hB
      obtain ⟨T, hT⟩ : ∃ T, recsOf (l.take k) = T := ⟨_, rfl⟩
      simp only [hT] at HI ⊢
      have HT := Lib.hid hT
      rw [hT] at hrl
      clear hT
      go_wp2_with fail
      clear hc1
      go_loopw [3, 18] (fun o i wr2 => ∃ j : Nat, j ≤ p.2.length ∧ i = .int .i64 (j : Nat) ∧ recsI w (T ++ pieces p.1 0 (p.2.take j)) o wr2) (fun _ i _ => p.2.length - (intOf i).toNat)
      case atStart => exact ⟨0, by omega, rfl, by simpa [pieces] using HI.out⟩
      case round =>
        obtain ⟨j, hj, rfl, ⟨ao2, cap2, g2, fe2, rfl, hown2, hfe2, hg2, hB2⟩⟩ := hrel
        by_cases hjl : j < p.2.length
        · obtain ⟨bv, ov, rfl, hbv, hcv', hvb⟩ := Hra.out.cellU32 j hjl
          have hcv := ((bcell hB2).1 _ _ hbv).trans hcv'
          have hc0 := ((bcell hB2).1 _ _ hb).trans HC0.out
          have hc1 := ((bcell hB2).1 _ _ hb).trans HC1.out
          have hps := pieces_snoc p.1 p.2[j] (p.2.take j) 0
          rw [← take_next p.2 j hjl, List.length_take, Nat.min_eq_left hj, Nat.zero_add] at hps
          have hpl := pieces_len p.1 (p.2.take j) 0
          rw [List.length_take, Nat.min_eq_left hj] at hpl
          obtain ⟨v, hve⟩ : ∃ v, p.2[j] = v := ⟨_, rfl⟩
          rw [hve] at hcv hvb hps
          obtain ⟨L, hL⟩ : ∃ L, T ++ pieces p.1 0 (p.2.take j) = L := ⟨_, rfl⟩
          have hLl := congrArg List.length hL
          rw [List.length_append, hpl] at hLl
          rw [hL] at hown2
          simp only [hL]
          have Hps := Lib.hid (show T ++ pieces p.1 0 (p.2.take (j + 1)) = L ++ [key3 p.1 j v] by rw [hps, ← hL, List.append_assoc])
          have hLb : L.length ≤ 3700 := by omega
          obtain ⟨css, hown0, hall⟩ := hown2
          have hown : Own wr ao2 cap2 g2 34 1 L.length css.flatten := hown0
          have hR := rrec_any p.1 j v hv (by omega) hvb
          have HR := Lib.hid hR
          have Hown := Lib.hid hown
          have Hall := Lib.hid hall
          have Hfe := Lib.hid hfe2
          have Hg := Lib.hid hg2
          have HB := Lib.hid hB2
          have hbw : b < wr.heap.size := by have := hB2.size; omega
          have hbvw : bv < wr.heap.size := by have := hB2.size; omega
          have hir2 : (j : Int) < (p.2.length : Int) := by omega
          have hcv2 := hcv
          clear hps hve hL hLl hown0 hall hown hR hfe2 hg2 hB2 hcv' hpl hcv2
          go_wp2_with fail
          have u1 : IntKind.u32.wrap ((j : Nat) : Int) = ((j : Nat) : Int) := IntWalk.u32_in _ (by omega)
          go_region_held3 (fun w' => w'.cell? ⟨b, off + k * 2, none⟩ = some (.int .u32 (p.1 : Nat)) ∧ w'.cell? ⟨b, off + k * 2 + 1, none⟩ = some (.slice (some ⟨bv, ov, none⟩) p.2.length cp) ∧ w'.cell? ⟨bv, ov + j, none⟩ = some (.int .u32 (v : Nat))) (first | exact ⟨x0, x1, x2⟩ | exact ⟨y0, y1, y2⟩ | go_keep | (simp [cell_set_ite, *]))
            (first
              | (go_at_call 26; refine (HR.out _).mono ?_; rintro e W1 ⟨a1, c1, g1, rfl, ho1, hg1, hB1'⟩; have hB1 : Below wr.heap.size wr W1 := (ext_drew wr).trans hB1'; have x0 := ((bcell hB1).1 b (off + k * 2) hbw).trans hc0; have x1 := ((bcell hB1).1 b (off + k * 2 + 1) hbw).trans hc1; have x2 := ((bcell hB1).1 bv (ov + j) hbvw).trans hcv; have hs1 := hB1.size; have hb1 : b < W1.heap.size := (by omega); have hbv1 : bv < W1.heap.size := (by omega); have Ho1 := Lib.hid ho1; have Hg1 := Lib.hid hg1; have HB1 := Lib.hid hB1; clear ho1 hg1 hB1 hB1')
              | (refine step_app rfl (.tmp 21) (.tmp 38) 48 48 rfl hE ((Hown.out.ext HB1.out).alloc _) rfl rfl (srcOne Try.underlying48 W1 (.slice a1 12 c1) 34 1 rfl) (by simp [maxLen]; omega) (by omega) ?_; intro ao5 cap5 g5 W5 ho5 hg5 hon5; have hB5 : Below w.heap.size W1 W5 := (((Below.refl w.heap.size W1).alloc (by have := HB.out.size; omega) _).trans (hon5.below (by have := HB.out.size; simp; omega) (fun k hk e => by have := Hg.out k e; omega))); have y0 := (hB5.cell (p := ⟨b, off + k * 2, none⟩) hb).trans x0; have y1 := (hB5.cell (p := ⟨b, off + k * 2 + 1, none⟩) hb).trans x1; have y2 := (hB5.cell (p := ⟨bv, ov + j, none⟩) hbv).trans x2; have Ho5 := Lib.hid ho5; have Hg5 := Lib.hid hg5; have Hon5 := Lib.hid ((Only.of_below (fp := fun k => g2 = some k) (ext_alloc W1 _)).trans hon5 (fun _ _ h => h)); clear ho5 hg5 hon5 hB5))
          go_wp2_with fail
          go_roundw
          case rel =>
            refine ⟨j + 1, by omega, by go_num, ?_⟩
            rw [Hps.out]
            exact recs_step HB.out Hall.out Hfe.out (fun b hb => ⟨Hg.out b hb, Hown.out.lt b hb⟩) rfl Ho1.out Hg1.out HB1.out Ho5.out (fun b h => by rcases Hg5.out with e | e <;> rw [e] at h <;> first | exact .inl h | (cases h; right; simp)) Hon5.out
          case measure => simp [intOf]; omega
        · obtain rfl : j = p.2.length := by omega
          rw [List.take_length] at hown2 ⊢
          have HI2 := Lib.hid (show recsI w (recsOf (l.take (k + 1))) _ wr by rw [Htk.out, HT.out]; exact ⟨ao2, cap2, g2, fe2, rfl, hown2, hfe2, hg2, hB2⟩)
          clear hown2 hfe2 hg2 hB2
          go_wp2_with fail
          go_roundw
          case rel => exact ⟨k + 1, by omega, by go_num, HI2.out⟩
          case measure => simp [intOf]; omega
    · obtain rfl : k = l.length := by omega
      rw [List.take_length] at hown ⊢
      have Hown := Lib.hid hown
      have Hfe := Lib.hid hfe
      have Hg := Lib.hid hg
      have HB := Lib.hid hB
      clear hown hfe hg hB
      go_wp2_with fail
      go_ret
      refine ⟨ao', cap', rfl, Hown.out.capLe.1, Hown.out.capLe.2, Hown.out.rd.mono (fun b hb _ => hb.elim (fun h => (Hfe.out b h).1) (Hg.out b)), HB.out⟩
end Go.Proofs.Ytbleacpdobjdaaa
