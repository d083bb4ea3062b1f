/- Texts merged into one: GraphRefs, GraphRefE, GraphAwake. -/
import Derived.Test.YtlgnpogmgpgdaaaBdGrW
import Derived.Test.YtlgnpogmgpgdaaaGraphOf
import Derived.Test.YtlgnpogmgpgdaaaEndsRows
namespace Go.Proofs.Ytlgnpogmgpgdaaa
set_option linter.unusedSimpArgs false
set_option linter.unusedVariables false
set_option maxRecDepth 100000
open Go.RowKit

theorem Rd.u32 {w : World} {ao : Option Addr} {l : List Nat} (h : Rd w ao l.length (u32s l)) (k : Nat) (hk : k < l.length) : ∃ b off, ao = some ⟨b, off, none⟩ ∧ b < w.heap.size ∧ w.cell? ⟨b, off + k, none⟩ = some (.int .u32 (l[k] : Nat)) := by
  obtain ⟨b, off, e, hb, hc⟩ := h.pos (by omega)
  refine ⟨b, off, e, hb, ?_⟩
  rw [hc k hk]
  simp [u32s, List.getElem?_map, List.getElem?_eq_getElem hk]
set_option maxRecDepth 100000 in
set_option maxHeartbeats 1600000 in
theorem vsame15_any (l : List Nat) (ao bo : Option Addr) (ca cb : Nat) (w : World) (hl : l.length ≤ 1073741824) (ha : Rd w ao l.length (u32s l)) (hb : Rd w bo l.length (u32s l)) :
    Calls Try.prog 35 #[.slice ao l.length ca, .slice bo l.length cb] w fun e w' => e = .returned (.bool true) ∧ ∃ m, w' = w.drewN m := by
  have hne : ((l.length : Int) != (l.length : Int)) = false := by simp
  have Ha := Lib.hid ha
  have Hb := Lib.hid hb
  clear ha hb
  go_enter Try.func35, Try.ntmps35
  go_wp2_with fail
  go_loopw [5, 13] (fun v i wr => sameQ l.length w i wr) (fun _ i _ => l.length - (intOf i).toNat)
  case atStart => exact ⟨0, 0, by omega, rfl, rfl⟩
  case round =>
    obtain ⟨k, m, hk, rfl, rfl⟩ := hrel
    by_cases hlt : k < l.length
    · obtain ⟨ba, oa, rfl, hba, hca⟩ := Ha.out.u32 k hlt
      obtain ⟨bb, ob, rfl, hbb, hcb⟩ := Hb.out.u32 k hlt
      have hir : (k : Int) < (l.length : Int) := by omega
      generalize l[k] = x at hca hcb
      have hx : ((x : Int) != x) = false := by simp
      go_wp2_with fail
      go_quiet (fail)
      go_wp2_with fail
      go_roundw
      case rel => exact ⟨k + 1, _, by omega, by go_num, rfl⟩
      case measure => simp [intOf]; omega
    · obtain rfl : k = l.length := by omega
      go_wp2_with fail
      go_ret
      exact ⟨rfl, _, rfl⟩
set_option maxRecDepth 100000 in
set_option maxHeartbeats 1600000 in
theorem gsame12_any (l : List EdgeD) (ao bo : Option Addr) (ca cb : Nat) (fa fb : Nat → Prop) (w : World) (hl : l.length ≤ 1073741824) (ha : RdS edgeRep fa w ao l) (hb : RdS edgeRep fb w bo l) :
    Calls Try.prog 32 #[.slice ao l.length ca, .slice bo l.length cb] w fun e w' => e = .returned (.bool true) ∧ ∃ m, w' = w.drewN m := by
  have hne : ((l.length : Int) != (l.length : Int)) = false := by simp
  have Ha := Lib.hid ha
  have Hb := Lib.hid hb
  clear ha hb
  go_enter Try.func32, Try.ntmps32
  go_wp2_with fail
  go_loopw [5, 13] (fun v i wr => sameQ l.length w i wr) (fun _ i _ => l.length - (intOf i).toNat)
  case atStart => exact ⟨0, 0, by omega, rfl, rfl⟩
  case round =>
    obtain ⟨k, m, hk, rfl, rfl⟩ := hrel
    by_cases hlt : k < l.length
    · obtain ⟨ba, oa, rfl, hba, ca0, ca1, ca2, _⟩ := Ha.out.edgeM k hlt
      obtain ⟨bb, ob, rfl, hbb, cb0, cb1, cb2, _⟩ := Hb.out.edgeM k hlt
      have hir : (k : Int) < (l.length : Int) := by omega
      generalize l[k] = x at ca0 ca1 ca2 cb0 cb1 cb2
      obtain ⟨x0, x1, x2⟩ := x
      simp only at ca0 ca1 ca2 cb0 cb1 cb2
      have hx : ((x0 : Int) != x0) = false := by simp
      have hy : ((x1 : Int) != x1) = false := by simp
      have hz : ((x2 : Int) != x2) = false := by simp
      go_wp2_with fail
      go_quiet (fail)
      go_wp2_with fail
      go_roundw
      case rel => exact ⟨k + 1, _, by omega, by go_num, rfl⟩
      case measure => simp [intOf]; omega
    · obtain rfl : k = l.length := by omega
      go_wp2_with fail
      go_ret
      exact ⟨rfl, _, rfl⟩

theorem nearM_take (l : List ArcD) (tv k : Nat) (h : k < l.length) : nearM (l.take (k + 1)) tv = (nearM (l.take k) tv || l[k].1 == tv) := by
  unfold nearM
  rw [List.take_succ_eq_append_getElem h, List.any_append]
  simp
theorem nearM_hit {l : List ArcD} {tv k : Nat} (h : k < l.length) (e : l[k].1 = tv) : nearM l tv = true := by
  unfold nearM
  rw [List.any_eq_true]
  exact ⟨l[k], List.getElem_mem h, by simp [e]⟩
def nearI (l : List ArcD) (tv : Nat) (w : World) (i : Value) (wr : World) : Prop := ∃ k : Nat, k ≤ l.length ∧ i = .int .i64 (k : Nat) ∧ nearM (l.take k) tv = false ∧ Below w.heap.size w wr
set_option maxRecDepth 100000 in
set_option maxHeartbeats 1600000 in
theorem rnear15_any (R : List RowD) (v tv : Nat) (ao : Option Addr) (cap : Nat) (fp : Nat → Prop) (w : World) (hl : R.length ≤ 100000) (ha : ∀ r ∈ R, r.2.length ≤ 100000) (hrd : RdS rowRep fp w ao R) :
    Calls Try.prog 31 #[.slice ao R.length cap, .int .u32 (v : Nat), .int .u32 (tv : Nat)] w (RetB (.bool (near15M R v tv)) w) := by
  have HAr := Lib.hid (arcs15_any R v ao cap fp w (by omega) hrd)
  have hal : (arcs15M R v).length ≤ 100000 := by
    rcases arcs15_mem (R := R) (v := v) with h | ⟨r, hr, _, h⟩
    · rw [h]; simp
    · rw [h]; exact ha r hr
  unfold near15M
  generalize arcs15M R v = l at *
  clear hrd ha
  go_enter Try.func31, Try.ntmps31
  go_upto_region 2 with (go_at_call 21; (with_reducible refine HAr.out.mono ?_); rintro e w2 ⟨a, c, rfl, _, _, h3, h4⟩; have H3 := Lib.hid h3; have H4 := Lib.hid h4; clear h3 h4)
  go_wp2_with fail
  go_loopw [14] (fun i wr => nearI l tv w2 i wr) (fun i _ => l.length - (intOf i).toNat)
  case atStart => exact ⟨0, by omega, rfl, rfl, Below.refl _ _⟩
  case round =>
    obtain ⟨k, hk, rfl, hn, hB⟩ := hrel
    rename World => wo
    have HB := Lib.hid hB
    by_cases hlt : k < l.length
    · obtain ⟨bb, off, rfl, hbb, hc0', _, _⟩ := H3.out.arc k hlt
      have hc0 := ((bcell hB).1 _ _ hbb).trans hc0'
      have hir : (k : Int) < (l.length : Int) := by omega
      have hst := nearM_take l tv k hlt
      rw [hn, Bool.false_or] at hst
      have hhit := @nearM_hit l tv k hlt
      clear hc0' hB hn
      generalize l[k] = x at hc0 hst hhit
      obtain ⟨x0, x1⟩ := x
      simp only at hc0 hst hhit
      by_cases h0 : x0 = tv
      · have e1 : (x0 == tv) = true := beq_iff_eq.2 h0
        have e1' : ((x0 : Int) == (tv : Int)) = true := beq_iff_eq.2 (by omega)
        have Hh := Lib.hid (hhit h0)
        clear hst hhit h0
        go_wp2_with fail
        go_ret
        exact ⟨by rw [Hh.out]; rfl, H4.out.trans (HB.out.mono H4.out.size)⟩
      · have e1 : (x0 == tv) = false := beq_eq_false_iff_ne.2 h0
        have e1' : ((x0 : Int) == (tv : Int)) = false := beq_eq_false_iff_ne.2 (by omega)
        rw [e1] at hst
        have Hst := Lib.hid hst
        clear hst hhit h0
        go_wp2_with fail
        go_roundw
        case rel => exact ⟨k + 1, by omega, by go_num, Hst.out, HB.out⟩
        case measure => simp [intOf]; omega
    · obtain rfl : k = l.length := by omega
      rw [List.take_length] at hn
      have Hn := Lib.hid hn
      clear hn hB
      go_wp2_with fail
      go_ret
      exact ⟨by rw [Hn.out]; rfl, H4.out.trans (HB.out.mono H4.out.size)⟩

/-! ### with -/
theorem filter_take (p : Nat → Bool) (l : List Nat) (k : Nat) (h : k < l.length) : (l.take (k + 1)).filter p = (l.take k).filter p ++ (if p l[k] = true then [l[k]] else []) := by
  rw [List.take_succ_eq_append_getElem h, List.filter_append]
  congr 1
  by_cases hp : p l[k] = true
  · simp [hp]
  · simp [hp]
def withI (pre : List Nat) (p : Nat → Bool) (l : List Nat) (w : World) (o i : Value) (wr : World) : Prop :=
  ∃ (k : Nat) (ao : Option Addr) (cap : Nat) (g : Option Nat), k ≤ l.length ∧ i = .int .i64 (k : Nat) ∧ o = .slice ao (pre ++ (l.take k).filter p).length cap ∧
    Own wr ao cap g 23 1 (pre ++ (l.take k).filter p).length (u32s (pre ++ (l.take k).filter p)) ∧ (∀ b, g = some b → w.heap.size ≤ b) ∧ Below w.heap.size w wr
set_option maxRecDepth 100000 in
set_option maxHeartbeats 3200000 in
theorem rwith_any (l : List Nat) (v : Nat) (ao : Option Addr) (cap : Nat) (w : World) (hl : l.length ≤ 100000) (hrd : Rd w ao l.length (u32s l)) :
    Calls Try.prog 73 #[.slice ao l.length cap, .int .u32 (v : Nat)] w (RetOwn 23 1 (withV l v).length (u32s (withV l v)) w) := by
  have hE := u32sElem
  have Hrd := Lib.hid hrd
  clear hrd
  go_enter Try.func73, Try.ntmps73
  go_wp2_with fail
  obtain ⟨P0, hP0⟩ : ∃ P0 : List Nat, P0 = [] := ⟨_, rfl⟩
  have HST : Hid (withI P0 (fun x => decide (x < v)) l w (.slice (some ⟨w.heap.size, 0, none⟩) 0 0) (.int .i64 0) (w.alloc (.cells #[] 23))) := by
    subst hP0
    exact ⟨0, _, _, some w.heap.size, Nat.zero_le _, rfl, rfl, Own.emptyAt w 23 1 w.heap.size rfl, (fun b h => by cases h; exact Nat.le_refl _), ext_alloc _ _⟩
  have HPL := Lib.hid (show P0.length ≤ l.length + 1 by rw [hP0]; simp)
  have HP0 := Lib.hid hP0
  clear hP0
  go_loopw [5, 11] (fun o i wr => withI P0 (fun x => decide (x < v)) l w o i wr) (fun _ i _ => l.length - (intOf i).toNat)
  case atStart => exact HST.out
  case round =>
    obtain ⟨k, ao1, cap1, g1, hk, rfl, rfl, hO, hg, hB⟩ := hrel
    rename World => wo
    by_cases hlt : k < l.length
    · obtain ⟨bb, off, rfl, hbb, hc'⟩ := Hrd.out.u32 k hlt
      have hc := ((bcell hB).1 _ _ hbb).trans hc'
      have hir : (k : Int) < (l.length : Int) := by omega
      have hst := filter_take (fun x => decide (x < v)) l k hlt
      have hln : (P0 ++ (l.take k).filter (fun x => decide (x < v))).length ≤ P0.length + k := by
        have := List.length_filter_le (fun x => decide (x < v)) (l.take k)
        rw [List.length_append]
        simp at this ⊢
        omega
      have hpl : P0.length ≤ l.length + 1 := HPL.out
      have HB := Lib.hid hB
      have HO := Lib.hid hO
      have Hg := Lib.hid hg
      clear hc' hB hO hg
      generalize l[k] = x at hc hst
      obtain ⟨L, hL⟩ : ∃ L, P0 ++ (l.take k).filter (fun x => decide (x < v)) = L := ⟨_, rfl⟩
      rw [hL] at HO hln ⊢
      by_cases h0 : (fun x => decide (x < v)) x = true
      · have e1 : decide (x < v) = true := by simpa using h0
        have e1' : decide (x < v) = true := e1
        have e2 := of_decide_eq_true e1
        have e3 : _ = true := decide_eq_true (show _ from Int.ofNat_lt.2 e2)
        rw [if_pos h0, ] at hst
        have Hst := Lib.hid (show P0 ++ (l.take (k + 1)).filter (fun x => decide (x < v)) = L ++ [x] by rw [hst, ← List.append_assoc, hL])
        clear hst h0 hL e2
        go_wp2_with (at_builtin; refine wpList_app rfl (.tmp 20) (.tmp 25) 24 24 rfl hE (HO.out.alloc _) rfl rfl (srcOne Try.underlying24 _ _ _ _ rfl) (by simp [maxLen]; omega) (by omega) ?_; intro ao3 cap3 g3 W3 ho3 hg3 hon3; obtain ⟨hG, hBB⟩ := app_blocksM Hg.out (HB.out.alloc HB.out.size _) hg3 hon3; have Ho3 := Lib.hid ho3; have HG := Lib.hid hG; have HBB := Lib.hid hBB; clear ho3 hg3 hon3 hG hBB)
        go_roundw
        case rel =>
          refine ⟨k + 1, ao3, cap3, g3, by omega, by go_num, by rw [Hst.out]; simp, ?_, HG.out, HBB.out⟩
          rw [Hst.out, u32s_append, List.length_append]
          exact Ho3.out
        case measure => simp [intOf]; omega
      · have e1 : decide (x < v) = false := by simpa using h0
        have e2 := of_decide_eq_false e1
        have e3 : _ = false := decide_eq_false (show ¬ _ from fun h => e2 (Int.ofNat_lt.1 h))
        rw [if_neg h0, List.append_nil] at hst
        have Hst := Lib.hid (show P0 ++ (l.take (k + 1)).filter (fun x => decide (x < v)) = L by rw [hst, hL])
        clear hst h0 hL e2
        go_wp2_with fail
        go_roundw
        case rel => exact ⟨k + 1, ao1, cap1, g1, by omega, by go_num, by rw [Hst.out], by rw [Hst.out]; exact HO.out, Hg.out, HB.out⟩
        case measure => simp [intOf]; omega
    · obtain rfl : k = l.length := by omega
      rw [List.take_length] at hO ⊢
      obtain ⟨F, hF⟩ : ∃ F, P0 ++ l.filter (fun x => decide (x < v)) = F := ⟨_, rfl⟩
      rw [hF] at hO ⊢
      have hFl : F.length ≤ P0.length + l.length := by
        rw [← hF, List.length_append]
        have := List.length_filter_le (fun x => decide (x < v)) l
        omega
      have HF := Lib.hid hF
      have HO := Lib.hid hO
      have Hg := Lib.hid hg
      have HB := Lib.hid hB
      clear hO hg hB HST HPL hF hlt hk
      rw [HP0.out, List.length_nil, Nat.zero_add] at hFl
      go_upto_region 9 with (at_builtin; refine wpList_app rfl (.tmp 28) (.tmp 30) 24 24 rfl hE (HO.out.alloc _) rfl rfl (srcOne Try.underlying24 _ _ _ _ rfl) (by simp [maxLen]; omega) (by omega) ?_; intro ao3 cap3 g3 W3 ho3 hg3 hon3; obtain ⟨hG, hBB⟩ := app_blocksM Hg.out (HB.out.alloc HB.out.size _) hg3 hon3; have Ho3 := Lib.hid ho3; have HG := Lib.hid hG; have HBB := Lib.hid hBB; clear ho3 hg3 hon3 hG hBB)
      obtain ⟨P, hP⟩ : ∃ P, F ++ [v] = P := ⟨_, rfl⟩
      have hPl : P.length = F.length + 1 := by rw [← hP]; simp
      have HST : Hid (withI P (fun x => decide (v < x)) l w (.slice ao3 (F.length + 1) cap3) (.int .i64 0) W3) := by
        refine ⟨0, ao3, cap3, g3, Nat.zero_le _, rfl, by simp [hPl], ?_, HG.out, HBB.out⟩
        have h9 := Ho3.out
        rw [List.take_zero, List.filter_nil, List.append_nil, hPl, ← hP, u32s_append]
        exact h9
      have HPL := Lib.hid (show P.length ≤ l.length + 1 by omega)
      have HP := Lib.hid hP
      have HF0 := HF
      clear Ho3 HG HBB HO Hg HB hP hPl hFl
      go_wp2_with fail
      go_loopw [5, 34] (fun o i wr => withI P (fun x => decide (v < x)) l w o i wr) (fun _ i _ => l.length - (intOf i).toNat)
      case atStart => exact HST.out
      case round =>
        obtain ⟨k, ao1, cap1, g1, hk, rfl, rfl, hO, hg, hB⟩ := hrel
        rename World => wo
        by_cases hlt : k < l.length
        · obtain ⟨bb, off, rfl, hbb, hc'⟩ := Hrd.out.u32 k hlt
          have hc := ((bcell hB).1 _ _ hbb).trans hc'
          have hir : (k : Int) < (l.length : Int) := by omega
          have hst := filter_take (fun x => decide (v < x)) l k hlt
          have hln : (P ++ (l.take k).filter (fun x => decide (v < x))).length ≤ P.length + k := by
            have := List.length_filter_le (fun x => decide (v < x)) (l.take k)
            rw [List.length_append]
            simp at this ⊢
            omega
          have hpl : P.length ≤ l.length + 1 := HPL.out
          have HB := Lib.hid hB
          have HO := Lib.hid hO
          have Hg := Lib.hid hg
          clear hc' hB hO hg
          generalize l[k] = x at hc hst
          obtain ⟨L, hL⟩ : ∃ L, P ++ (l.take k).filter (fun x => decide (v < x)) = L := ⟨_, rfl⟩
          rw [hL] at HO hln ⊢
          by_cases h0 : (fun x => decide (v < x)) x = true
          · have e1 : decide (v < x) = true := by simpa using h0
            have e1' : decide (v < x) = true := e1
            have e2 := of_decide_eq_true e1
            have e3 : _ = true := decide_eq_true (show _ from Int.ofNat_lt.2 e2)
            rw [if_pos h0, ] at hst
            have Hst := Lib.hid (show P ++ (l.take (k + 1)).filter (fun x => decide (v < x)) = L ++ [x] by rw [hst, ← List.append_assoc, hL])
            clear hst h0 hL e2
            go_wp2_with (at_builtin; refine wpList_app rfl (.tmp 43) (.tmp 48) 24 24 rfl hE (HO.out.alloc _) rfl rfl (srcOne Try.underlying24 _ _ _ _ rfl) (by simp [maxLen]; omega) (by omega) ?_; intro ao3 cap3 g3 W3 ho3 hg3 hon3; obtain ⟨hG, hBB⟩ := app_blocksM Hg.out (HB.out.alloc HB.out.size _) hg3 hon3; have Ho3 := Lib.hid ho3; have HG := Lib.hid hG; have HBB := Lib.hid hBB; clear ho3 hg3 hon3 hG hBB)
            go_roundw
            case rel =>
              refine ⟨k + 1, ao3, cap3, g3, by omega, by go_num, by rw [Hst.out]; simp, ?_, HG.out, HBB.out⟩
              rw [Hst.out, u32s_append, List.length_append]
              exact Ho3.out
            case measure => simp [intOf]; omega
          · have e1 : decide (v < x) = false := by simpa using h0
            have e2 := of_decide_eq_false e1
            have e3 : _ = false := decide_eq_false (show ¬ _ from fun h => e2 (Int.ofNat_lt.1 h))
            rw [if_neg h0, List.append_nil] at hst
            have Hst := Lib.hid (show P ++ (l.take (k + 1)).filter (fun x => decide (v < x)) = L by rw [hst, hL])
            clear hst h0 hL e2
            go_wp2_with fail
            go_roundw
            case rel => exact ⟨k + 1, ao1, cap1, g1, by omega, by go_num, by rw [Hst.out], by rw [Hst.out]; exact HO.out, Hg.out, HB.out⟩
            case measure => simp [intOf]; omega
        · obtain rfl : k = l.length := by omega
          rw [List.take_length] at hO ⊢
          obtain ⟨F, hF⟩ : ∃ F, P ++ l.filter (fun x => decide (v < x)) = F := ⟨_, rfl⟩
          rw [hF] at hO ⊢
          have hFl : F.length ≤ P.length + l.length := by
            rw [← hF, List.length_append]
            have := List.length_filter_le (fun x => decide (v < x)) l
            omega
          have HF := Lib.hid hF
          have HO := Lib.hid hO
          have Hg := Lib.hid hg
          have HB := Lib.hid hB
          clear hO hg hB HST HPL hF hlt hk
          go_wp2_with fail
          go_ret
          have e : withV l v = F := by rw [← HF.out, ← HP.out, ← HF0.out, HP0.out]; rfl
          rw [e]
          exact ⟨ao1, cap1, g1, rfl, HO.out, Hg.out, HB.out⟩
end Go.Proofs.Ytlgnpogmgpgdaaa

namespace Go.Proofs.Ytlgnpogmgpgdaaa
set_option linter.unusedSimpArgs false
set_option linter.unusedVariables false
set_option maxRecDepth 100000
open Go.RowKit

def rowE (r0 : Nat) (l : List ArcD) : List EdgeD := l.map (fun a => (r0, a.1, a.2))
theorem edgesM_take (R : List RowD) (k : Nat) (h : k < R.length) : edgesM (R.take (k + 1)) = edgesM (R.take k) ++ rowE R[k].1 R[k].2 := by
  rw [List.take_succ_eq_append_getElem h, edgesM_append]
  simp [edgesM, rowE]
def reO (R : List RowD) (w : World) (o i : Value) (wr : World) : Prop :=
  ∃ (k : Nat) (ao : Option Addr) (cap : Nat) (g : Option Nat), k ≤ R.length ∧ i = .int .i64 (k : Nat) ∧ o = .slice ao (edgesM (R.take k)).length cap ∧ OwnS edgeRep (fun _ => False) wr ao cap g 56 (edgesM (R.take k)) ∧ (∀ b, g = some b → w.heap.size ≤ b) ∧ Below w.heap.size w wr
def reJ (E0 : List EdgeD) (r0 : Nat) (rl : List ArcD) (w : World) (o i : Value) (wr : World) : Prop :=
  ∃ (k : Nat) (ao : Option Addr) (cap : Nat) (g : Option Nat), k ≤ rl.length ∧ i = .int .i64 (k : Nat) ∧ o = .slice ao (E0.length + k) cap ∧ OwnS edgeRep (fun _ => False) wr ao cap g 56 (E0 ++ rowE r0 (rl.take k)) ∧ (∀ b, g = some b → w.heap.size ≤ b) ∧ Below w.heap.size w wr
set_option maxRecDepth 100000 in
set_option maxHeartbeats 6400000 in
theorem redges15_any (R : List RowD) (ao : Option Addr) (cap : Nat) (fp : Nat → Prop) (w : World) (hl : R.length ≤ 100000) (hEl : (edgesM R).length ≤ 1000000) (hrd : RdS rowRep fp w ao R) :
    Calls Try.prog 34 #[.slice ao R.length cap] w (EdgesOwn (edgesM R) w) := by
  have hE := edgesElem
  have Hrd := Lib.hid hrd
  clear hrd
  go_enter Try.func34, Try.ntmps34
  go_wp2_with fail
  go_loopw [3, 9] (fun o i wr => reO R w o i wr) (fun _ i _ => R.length - (intOf i).toNat)
  case atStart => exact ⟨0, _, _, some w.heap.size, Nat.zero_le _, rfl, rfl, ⟨[], Own.emptyAt w 56 3 w.heap.size rfl, .nil⟩, (fun b h => by cases h; exact Nat.le_refl _), ext_alloc _ _⟩
  case round =>
    obtain ⟨k, ao1, cap1, g1, hk, rfl, rfl, hO, hg, hB⟩ := hrel
    rename World => wo
    by_cases hlt : k < R.length
    · obtain ⟨bb, off, ra, rc, rfl, hbb, hc0', hc1', h1, h2, h3, hr⟩ := Hrd.out.row k hlt
      have hc1 := ((bcell hB).1 _ _ hbb).trans hc1'
      have hir : (k : Int) < (R.length : Int) := by omega
      have hst := edgesM_take R k hlt
      have hpre : (edgesM (R.take (k + 1))).length ≤ 1000000 := Nat.le_trans (edges_prefix (List.take_prefix _ _)) hEl
      rw [hst, List.length_append] at hpre
      obtain ⟨r, hr'⟩ : ∃ r, R[k] = r := ⟨_, rfl⟩
      rw [hr'] at hc0' hc1 hc1' hst hpre hr h1 h2
      obtain ⟨r0, rl⟩ := r
      simp only at hc0' hc1 hc1' hst hpre hr h1 h2
      have hpre2 : (edgesM (R.take k)).length + rl.length ≤ 1000000 := by simpa [rowE] using hpre
      have HST := Lib.hid (show reJ (edgesM (R.take k)) r0 rl w (.slice ao1 (edgesM (R.take k)).length cap1) (.int .i64 0) wo from ⟨0, ao1, cap1, g1, Nat.zero_le _, rfl, rfl, by simpa [rowE] using hO, hg, hB⟩)
      have Hst := Lib.hid hst
      have Hr := Lib.hid hr
      clear hO hg hB hst hpre hr' hr h3 h2
      generalize edgesM (R.take k) = E0 at *
      go_wp2_with fail
      clear hc1
      go_loopw [3, 18] (fun o i wr => reJ E0 r0 rl w o i wr) (fun _ i _ => rl.length - (intOf i).toNat)
      case atStart => exact HST.out
      case round =>
        obtain ⟨j, ao2, cap2, g2, hj, rfl, rfl, hO, hg, hB⟩ := hrel
        rename World => wq
        by_cases hjt : j < rl.length
        · obtain ⟨ba, oa, rfl, hba, hd0', hd1', hoka⟩ := Hr.out.arc j hjt
          have hjr : (j : Int) < (rl.length : Int) := by omega
          have m0 := ((bcell hB).1 _ _ hbb).trans hc0'
          have m1 := ((bcell hB).1 _ _ hbb).trans hc1'
          have m2 := ((bcell hB).1 _ _ hba).trans hd0'
          have m3 := ((bcell hB).1 _ _ hba).trans hd1'
          have htk : rl.take (j + 1) = rl.take j ++ [rl[j]] := List.take_succ_eq_append_getElem hjt
          generalize rl[j] = x at m2 m3 hd0' hd1' hoka htk
          obtain ⟨x0, x1⟩ := x
          simp only at m2 m3 hd0' hd1'
          have hln : (E0 ++ rowE r0 (rl.take j)).length = E0.length + j := by simp [rowE]; omega
          obtain ⟨css, hown0, hall⟩ := hO
          rw [hln] at hown0
          have hown : Own wq ao2 cap2 g2 56 3 (E0.length + j) css.flatten := hown0
          have Hown := Lib.hid hown
          have Hall := Lib.hid hall
          have Htk := Lib.hid htk
          have Hln := Lib.hid hln
          have Hoka := Lib.hid hoka
          have Hg := Lib.hid hg
          have HB := Lib.hid hB
          have ha := fun o : Obj => bcell (hB.trans (((ext_drew wq).alloc (by simp) o).mono hB.size))
          have p0 := fun o : Obj => ((ha o).1 _ _ hbb).trans hc0'
          have p1 := fun o : Obj => ((ha o).1 _ _ hbb).trans hc1'
          have p2 := fun o : Obj => ((ha o).1 _ _ hba).trans hd0'
          have p3 := fun o : Obj => ((ha o).1 _ _ hba).trans hd1'
          have HQ := Lib.hid (And.intro p0 (And.intro p1 (And.intro p2 p3)))
          have HDA := Lib.hid (fun o : Obj => (show Below w.heap.size w (wq.drew.alloc o) from hB.trans (((ext_drew wq).alloc (by simp) o).mono hB.size)))
          have HD := Lib.hid (And.intro hc0' (And.intro hc1' (And.intro hd0' hd1')))
          clear hown0 hown hall htk hln hoka hg hB hc0' hc1' hd0' hd1' HST ha p0 p1 p2 p3
          go_upto_region 8 with fail
          go_region_held3 (fun w' => w'.cell? ⟨bb, off + k * 2, none⟩ = some (.int .u32 (r0 : Nat)) ∧ w'.cell? ⟨bb, off + k * 2 + 1, none⟩ = some (.slice (some ⟨ba, oa, none⟩) rl.length rc) ∧ w'.cell? ⟨ba, oa + j * 2, none⟩ = some (.int .u32 (x0 : Nat)) ∧ w'.cell? ⟨ba, oa + j * 2 + 1, none⟩ = some (.int .u32 (x1 : Nat)))
            (first | exact ⟨m0, m1, m2, m3⟩ | exact HP.out | exact ⟨HQ.out.1 _, HQ.out.2.1 _, HQ.out.2.2.1 _, HQ.out.2.2.2 _⟩)
            (first
              | ((refine step_app (g := g2) (xs := css.flatten) (m := 1) (news := [.int .u32 (r0 : Nat), .int .u32 (x0 : Nat), .int .u32 (x1 : Nat)]) rfl (.tmp 21) (.tmp 46) 46 46 rfl hE ?_ rfl rfl ?_ ?_ ?_ ?_; (exact (Hown.out.ext (ext_drew _)).alloc _); ((try rw [alloc_drew]); refine srcManyE Try.underlying46 _ [_, _, _] _ _ 3 _ ?_ rfl ?_; (first | rfl | omega | (focus (simp; done))); (focus (simp [Value.oneCell']; done))); (focus (simp [maxLen]; omega)); omega); intro ao3 cap3 g3 w3 ho3 hg3 hon3; obtain ⟨hG, hBB⟩ := app_blocksM Hg.out (HDA.out _) hg3 hon3; have HP := Lib.hid (And.intro (((bcell hBB).1 bb _ hbb).trans HD.out.1) (And.intro (((bcell hBB).1 bb _ hbb).trans HD.out.2.1) (And.intro (((bcell hBB).1 ba _ hba).trans HD.out.2.2.1) (((bcell hBB).1 ba _ hba).trans HD.out.2.2.2)))); have HSZ := Lib.hid (show wq.heap.size ≤ w3.heap.size by have := hon3.size; simp at this; omega); have Ho3 := Lib.hid ho3; have HG := Lib.hid hG; have HBB := Lib.hid hBB; clear ho3 hg3 hon3 hG hBB)
              | fail "no arm")
          go_wp2_with fail
          go_roundw
          case rel =>
            refine ⟨j + 1, ao3, cap3, g3, by omega, by go_num, by rw [Nat.add_assoc], ?_, HG.out, HBB.out⟩
            have hS : OwnS edgeRep (fun _ => False) w3 ao3 cap3 g3 56 ((E0 ++ rowE r0 (rl.take j)) ++ [(r0, x0, x1)]) := OwnS.snoc (w := wq) Hall.out (cs := [.int .u32 (r0 : Nat), .int .u32 (x0 : Nat), .int .u32 (x1 : Nat)]) (edgeRep_ok' (x := (r0, x0, x1)) ⟨h1, Hoka.out.1, Hoka.out.2⟩) (by rw [Hln.out]; exact Ho3.out) (fun b hb => hb.elim) HSZ.out
            rw [Htk.out, show rowE r0 (rl.take j ++ [(x0, x1)]) = rowE r0 (rl.take j) ++ [(r0, x0, x1)] by simp [rowE], ← List.append_assoc]
            exact hS
          case measure => simp [intOf]; omega
        · obtain rfl : j = rl.length := by omega
          rw [List.take_length] at hO
          have HO := Lib.hid hO
          have Hg := Lib.hid hg
          have HB := Lib.hid hB
          clear hO hg hB HST
          go_wp2_with fail
          go_roundw
          case rel => exact ⟨k + 1, ao2, cap2, g2, by omega, by go_num, by rw [Hst.out]; simp [rowE], by rw [Hst.out]; exact HO.out, Hg.out, HB.out⟩
          case measure => simp [intOf]; omega
    · obtain rfl : k = R.length := by omega
      rw [List.take_length] at hO ⊢
      have HO := Lib.hid hO
      have Hg := Lib.hid hg
      have HB := Lib.hid hB
      generalize edgesM R = E at *
      clear hO hg hB
      go_wp2_with fail
      go_ret
      exact ⟨ao1, cap1, g1, rfl, HO.out, Hg.out, HB.out⟩

/-! ### Vertices -/
def foldV (E : List EdgeD) : List Nat := E.foldl (fun out x => withV (withV out x.1) x.2.1) []
def rvI (E : List EdgeD) (w : World) (o i : Value) (wr : World) : Prop :=
  ∃ (k : Nat) (ao : Option Addr) (cap : Nat), k ≤ E.length ∧ i = .int .i64 (k : Nat) ∧ o = .slice ao (foldV (E.take k)).length cap ∧ Rd wr ao (foldV (E.take k)).length (u32s (foldV (E.take k))) ∧ Below w.heap.size w wr
theorem withV_len (l : List Nat) (v : Nat) : (withV l v).length ≤ l.length + 1 := by
  have h : ∀ l : List Nat, (l.filter (fun x => decide (x < v))).length + (l.filter (fun x => decide (v < x))).length ≤ l.length := by
    intro l
    induction l with
    | nil => simp
    | cons a l ih =>
      simp only [List.filter_cons]
      by_cases h1 : a < v
      · have h2 : ¬ v < a := by omega
        simp [h1, h2]; omega
      · by_cases h2 : v < a
        · simp [h1, h2]; omega
        · simp [h1, h2]; omega
  unfold withV
  have := h l
  simp only [List.length_append, List.length_singleton]
  omega
theorem fold_take (E : List EdgeD) (k : Nat) (h : k < E.length) : foldV (E.take (k + 1)) = withV (withV (foldV (E.take k)) E[k].1) E[k].2.1 := by
  unfold foldV
  rw [List.take_succ_eq_append_getElem h, List.foldl_append]
  rfl
theorem fold_len (E : List EdgeD) : ∀ out : List Nat, (E.foldl (fun out x => withV (withV out x.1) x.2.1) out).length ≤ out.length + 2 * E.length := by
  induction E with
  | nil => intro out; simp
  | cons e E ih =>
    intro out
    rw [List.foldl_cons]
    have h1 := ih (withV (withV out e.1) e.2.1)
    have h2 := withV_len (withV out e.1) e.2.1
    have h3 := withV_len out e.1
    simp only [List.length_cons]
    omega
set_option maxRecDepth 100000 in
set_option maxHeartbeats 3200000 in
theorem rverts15_any (R : List RowD) (ao : Option Addr) (cap : Nat) (fp : Nat → Prop) (w : World) (hl : R.length ≤ 100000) (hEl : (edgesM R).length ≤ 30000) (hrd : RdS rowRep fp w ao R) :
    Calls Try.prog 37 #[.slice ao R.length cap] w (VertsRet (vertM R) w) := by
  have HE := Lib.hid (fun W (h : Below w.heap.size w W) => redges15_any R ao cap fp W hl (by omega) (hrd.ext h))
  rw [show vertM R = foldV (edgesM R) from rfl]
  generalize edgesM R = E at *
  clear hrd
  go_enter Try.func37, Try.ntmps37
  go_upto_region 3 with (go_at_call 34; (with_reducible refine (HE.out _ (ext_alloc _ _)).mono ?_); rintro e w2 ⟨ea, ec, eg, rfl, h1, h2, h3⟩; have H1 := Lib.hid h1.rd; have B2 := Lib.hid ((ext_alloc w _).trans (h3.mono (by simp))); have HW := Lib.hid ((Own.emptyAt w 23 1 w.heap.size rfl).ext h3).rd; clear h1 h2 h3)
  go_wp2_with fail
  go_loopw [3, 11] (fun o i wr => rvI E w2 o i wr) (fun _ i _ => E.length - (intOf i).toNat)
  case atStart => exact ⟨0, _, _, Nat.zero_le _, rfl, rfl, HW.out, Below.refl _ _⟩
  case round =>
    obtain ⟨k, ao1, cap1, hk, rfl, rfl, hO, hB⟩ := hrel
    rename World => wo
    by_cases hlt : k < E.length
    · obtain ⟨bb, off, rfl, hbb, hc0', hc1', _, hoke⟩ := H1.out.edgeM k hlt
      have m0 := ((bcell hB).1 _ _ hbb).trans hc0'
      have m1 := ((bcell hB).1 _ _ hbb).trans hc1'
      have hir : (k : Int) < (E.length : Int) := by omega
      have hst := fold_take E k hlt
      have hfl : (foldV (E.take k)).length ≤ 2 * E.length := by
        have h9 := fold_len (E.take k) []
        unfold foldV
        rw [List.length_take] at h9
        simp only [List.length_nil] at h9
        omega
      generalize E[k] = x at m0 m1 hc0' hc1' hst hoke
      obtain ⟨x0, x1, x2⟩ := x
      simp only at m0 m1 hc0' hc1' hst
      generalize foldV (E.take k) = L at *
      have hw1 := withV_len L x0
      have HW1 := Lib.hid (fun W h => rwith_any L x0 ao1 cap1 W (by omega) h)
      have HW2 := Lib.hid (fun a c W h => rwith_any (withV L x0) x1 a c W (by omega) h)
      have HO := Lib.hid (hO.ext (ext_drew wo))
      have HB := Lib.hid hB
      have HD := Lib.hid (And.intro hc0' hc1')
      have Hst := Lib.hid hst
      obtain ⟨L1, hL1⟩ : ∃ L1, withV L x0 = L1 := ⟨_, rfl⟩
      rw [hL1] at HW1 HW2 Hst
      obtain ⟨L2, hL2⟩ : ∃ L2, withV L1 x1 = L2 := ⟨_, rfl⟩
      rw [hL2] at HW2 Hst
      clear hO hB hc0' hc1' hst hL1 hL2 hoke hw1
      go_upto_region 6 with fail
      go_region_held3 (fun w' => w'.cell? ⟨bb, off + k * 3, none⟩ = some (.int .u32 (x0 : Nat)) ∧ w'.cell? ⟨bb, off + k * 3 + 1, none⟩ = some (.int .u32 (x1 : Nat)))
        (first | exact ⟨m0, m1⟩ | exact HP.out | exact HP2.out)
        (first
          | (go_at_call 73; (with_reducible refine (HW1.out _ HO.out).mono ?_); rintro e w3 ⟨a3, c3, g3, rfl, h1, _, h3⟩; have hB3 := HB.out.trans (((ext_drew wo).trans h3).mono HB.out.size); have HP := Lib.hid (And.intro (((bcell hB3).1 bb _ hbb).trans HD.out.1) (((bcell hB3).1 bb _ hbb).trans HD.out.2)); have R3 := Lib.hid h1.rd; have B3 := Lib.hid hB3; clear h1 h3 hB3)
          | (go_at_call 73; (with_reducible refine (HW2.out _ _ _ R3.out).mono ?_); rintro e w4 ⟨a4, c4, g4, rfl, h1, _, h3⟩; have hB4 := B3.out.trans (h3.mono B3.out.size); have HP2 := Lib.hid (And.intro (((bcell hB4).1 bb _ hbb).trans HD.out.1) (((bcell hB4).1 bb _ hbb).trans HD.out.2)); have R4 := Lib.hid h1.rd; have B4 := Lib.hid hB4; clear h1 h3 hB4)
          | fail "no arm")
      go_wp2_with fail
      go_roundw
      case rel => exact ⟨k + 1, a4, c4, by omega, by go_num, by rw [Hst.out], by rw [Hst.out]; exact R4.out, B4.out⟩
      case measure => simp [intOf]; omega
    · obtain rfl : k = E.length := by omega
      rw [List.take_length] at hO ⊢
      have HO := Lib.hid hO
      have HB := Lib.hid hB
      generalize foldV E = V at *
      clear hO hB
      go_wp2_with fail
      go_ret
      exact ⟨ao1, cap1, rfl, HO.out, B2.out.trans (HB.out.mono B2.out.size)⟩
end Go.Proofs.Ytlgnpogmgpgdaaa

namespace Go.Proofs.Ytlgnpogmgpgdaaa
set_option linter.unusedSimpArgs false
set_option linter.unusedVariables false
set_option maxRecDepth 100000
open Go.RowKit

theorem edges_small {R : List RowD} {m : Nat} (h : ∀ r ∈ R, r.2.length ≤ m) : (edgesM R).length ≤ R.length * m ∧ (rawV R).length ≤ R.length * (m + 1) := by
  induction R with
  | nil => simp [edgesM, rawV]
  | cons r R ih =>
    obtain ⟨h1, h2⟩ := ih (fun x hx => h x (by simp [hx]))
    have h3 := h r (by simp)
    rw [edgesM_cons, show rawV (r :: R) = (r.1 :: r.2.map (·.1)) ++ rawV R from rfl]
    simp only [List.length_append, List.length_map, List.length_cons, Nat.add_mul, Nat.one_mul]
    omega
/-- what the walks want of rows -/
structure FitG (R : List RowD) : Prop where
  ok : okG R
  len : R.length ≤ 100000
  arcs : ∀ r ∈ R, r.2.length ≤ 100000
  edges : (edgesM R).length ≤ 30000
  raw : (rawV R).length < 65536
theorem FitG.of {R : List RowD} (h : okG R) (h1 : R.length ≤ 100) (h2 : ∀ r ∈ R, r.2.length ≤ 100) : FitG R := by
  obtain ⟨h3, h4⟩ := edges_small h2
  have h5 : R.length * 100 ≤ 100 * 100 := Nat.mul_le_mul_right _ h1
  have h6 : R.length * (100 + 1) ≤ 100 * 101 := Nat.mul_le_mul_right _ h1
  exact ⟨h, by omega, fun r hr => Nat.le_trans (h2 r hr) (by omega), by omega, by omega⟩
section
variable {R : List RowD} (h : FitG R)
include h
theorem FitG.pair : R.Pairwise (fun a b => a.1 < b.1) := h.ok.1.1
theorem FitG.near : ∀ r ∈ R, r.2.length ≤ 100000 ∧ r.2.Pairwise (fun a b => a.1 < b.1) := fun r hr => ⟨h.arcs r hr, (h.ok.1.2 r hr).2.1⟩
theorem FitG.rows : ∀ r ∈ R, r.1 < 4294967296 ∧ r.2.length ≤ 100000 := fun r hr => ⟨(h.ok.2 r hr).1, h.arcs r hr⟩
theorem FitG.each : ∀ r ∈ R, r.1 < 4294967296 ∧ r.2.length ≤ 100000 ∧ ∀ a ∈ r.2, okA a := fun r hr => ⟨(h.ok.2 r hr).1, h.arcs r hr, (h.ok.2 r hr).2.1⟩
theorem FitG.vert : ∀ r ∈ R, r.1 < 4294967296 ∧ r.2.length ≤ 100000 ∧ r.2 ≠ [] ∧ ∀ a ∈ r.2, okA a := fun r hr => ⟨(h.ok.2 r hr).1, h.arcs r hr, (h.ok.1.2 r hr).1, (h.ok.2 r hr).2.1⟩
end
theorem FitG.nil : FitG [] := FitG.of ⟨⟨.nil, by simp⟩, by simp⟩ (by simp) (by simp)
theorem rd_edges2 (W : World) (a b c d e f n : Nat) (hn : n = W.heap.size) (h1 : okE (a, b, c)) (h2 : okE (d, e, f)) (t : TypeId) :
    RdS edgeRep (fun _ => True) (W.alloc (.cells #[.int .u32 (a : Nat), .int .u32 (b : Nat), .int .u32 (c : Nat), .int .u32 (d : Nat), .int .u32 (e : Nat), .int .u32 (f : Nat)] t)) (some ⟨n, 0, none⟩) [(a, b, c), (d, e, f)] :=
  (RdS.new (R := edgeRep) (fp := fun _ => False) (l := [(a, b, c), (d, e, f)]) (css := [[.int .u32 (a : Nat), .int .u32 (b : Nat), .int .u32 (c : Nat)], [.int .u32 (d : Nat), .int .u32 (e : Nat), .int .u32 (f : Nat)]])
    (.cons (edgeRep_ok' h1) (.cons (edgeRep_ok' h2) .nil)) rfl n hn).mono (fun _ _ _ => trivial)
theorem aw15_of : ofM [(1, 2, 3), (1, 2, 4)] = ([(1, [(2, 7)])], 0) := by decide +kernel
theorem aw15_fit : FitG [(1, [(2, 7)])] := by
  refine FitG.of ⟨⟨List.pairwise_singleton _ _, fun r hr => ?_⟩, fun r hr => ?_⟩ (by simp) (fun r hr => ?_)
  · rw [List.mem_singleton.1 hr]; exact ⟨by simp, List.pairwise_singleton _ _, by simp⟩
  · rw [List.mem_singleton.1 hr]; exact ⟨by decide, by simp [okA], by decide⟩
  · rw [List.mem_singleton.1 hr]; simp
theorem aw15_vert : vertM [(1, [(2, 7)])] = [1, 2] := by decide +kernel
set_option maxRecDepth 100000 in
set_option maxHeartbeats 3200000 in
theorem awake15_any (w : World) : Calls Try.prog 23 #[] w (RetB (.bool true) w) := by
  have hF := aw15_fit
  obtain ⟨W2, hW2⟩ : ∃ W2, w.alloc (.cells #[.int .u32 1, .int .u32 2, .int .u32 3, .int .u32 1, .int .u32 2, .int .u32 4] 56) = W2 := ⟨_, rfl⟩
  have B2 := Lib.hid (show Below w.heap.size w W2 by rw [← hW2]; exact ext_alloc w _)
  have HOf := Lib.hid (show Calls Try.prog 24 #[.slice (some ⟨w.heap.size, 0, none⟩) 2 2] W2 (GraphRet ([(1, [(2, 7)])], 0) W2) from by
    have hr : RdS edgeRep (fun _ => True) W2 (some ⟨w.heap.size, 0, none⟩) [(1, 2, 3), (1, 2, 4)] := by rw [← hW2]; exact rd_edges2 w 1 2 3 1 2 4 _ rfl (by simp [okE]) (by simp [okE]) _
    have h := gof_any [(1, 2, 3), (1, 2, 4)] (some ⟨w.heap.size, 0, none⟩) 2 _ W2 (by simp) (by intro x hx; simp at hx; rcases hx with rfl | rfl <;> simp [okE]) hr
    rw [aw15_of] at h
    exact h)
  go_enter Try.func23, Try.ntmps23
  go_upto_region 2 with (go_at_call 24; (with_reducible refine HOf.out.mono ?_); rintro e w3 ⟨p, rfl, _, _, h1, h2⟩; have H1 := Lib.hid (h1.mono (fun b _ hl => hl)); have B3 := Lib.hid (B2.out.trans (h2.mono B2.out.size)); clear h1 h2)
  have HL := Lib.hid (fun W h => (show Calls Try.prog 27 #[gV p] W fun e w' => e = .returned (.int .i64 1) ∧ w' = W from glen_any p [(1, [(2, 7)])] (fun b => b < w3.heap.size) W h))
  have HN1 := Lib.hid (fun W h => (show Calls Try.prog 30 #[gV p, .int .u32 1, .int .u32 2] W (RetB (.bool true) W) from gnear_any p [(1, [(2, 7)])] 1 2 (fun b => b < w3.heap.size) W hF.len hF.near hF.pair h))
  have HN2 := Lib.hid (fun W h => (show Calls Try.prog 30 #[gV p, .int .u32 2, .int .u32 1] W (RetB (.bool false) W) from gnear_any p [(1, [(2, 7)])] 2 1 (fun b => b < w3.heap.size) W hF.len hF.near hF.pair h))
  have HV := Lib.hid (show Calls Try.prog 36 #[gV p] w3 (VertsRet [1, 2] w3) from by
    have h := gverts_any p [(1, [(2, 7)])] (fun b => b < w3.heap.size) w3 hF.len hF.vert hF.raw H1.out (fun _ h => h)
    rw [aw15_vert] at h
    exact h)
  clear hW2 HOf
  generalize gV p = pv at *
  go_wp2_with (first
    | (go_at_call 36; (with_reducible refine HV.out.mono ?_); rintro e w4 ⟨va, vc, rfl, h1, h2⟩; have G4 := Lib.hid (H1.out.ext h2); have v0 := h1.u32 0 (by simp); have v1 := h1.u32 1 (by simp); have B4 := Lib.hid (B3.out.trans (h2.mono B3.out.size)); obtain ⟨vb, vo, rfl, hvb, v0⟩ := v0; obtain ⟨vb', vo', hva, _, v1⟩ := v1; cases hva; have v0' : w4.cell? ⟨vb, vo, none⟩ = some (.int .u32 1) := v0; have v1' : w4.cell? ⟨vb, vo + 1, none⟩ = some (.int .u32 2) := v1; clear h1 h2 v0 v1)
    | (go_at_call 27; (with_reducible refine (HL.out _ G4.out).mono ?_); rintro e w5 ⟨rfl, hw5⟩; obtain rfl : w4 = w5 := hw5.symm; clear hw5)
    | (go_at_call 30; (with_reducible refine (HN1.out _ G4.out).mono ?_); rintro e w6 ⟨rfl, h2⟩; have G6 := Lib.hid (G4.out.ext h2); have B6 := Lib.hid (B4.out.trans (h2.mono B4.out.size)); have u0 := ((bcell h2).1 vb _ hvb).trans v0'; have u1 := ((bcell h2).1 vb _ hvb).trans v1'; have hvb6 := Nat.lt_of_lt_of_le hvb h2.size; clear h2 v0' v1')
    | (go_at_call 30; (with_reducible refine (HN2.out _ G6.out).mono ?_); rintro e w7 ⟨rfl, h2⟩; have B7 := Lib.hid (B6.out.trans (h2.mono B6.out.size)); have t0 := ((bcell h2).1 vb _ hvb6).trans u0; have t1 := ((bcell h2).1 vb _ hvb6).trans u1; clear h2 u0 u1))
  go_ret
  exact ⟨rfl, B7.out⟩
end Go.Proofs.Ytlgnpogmgpgdaaa
