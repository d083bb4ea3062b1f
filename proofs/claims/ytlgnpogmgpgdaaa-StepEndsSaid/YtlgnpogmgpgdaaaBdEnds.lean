/- Texts merged into one: EndsPlain, GraphRef, EndsRows. -/
import Derived.Test.YtlgnpogmgpgdaaaKeepsW
import Derived.Test.YtlgnpogmgpgdaaaBdRows
namespace Go.Proofs.Ytlgnpogmgpgdaaa
set_option linter.unusedSimpArgs false
set_option linter.unusedVariables false
set_option maxRecDepth 100000
open Go.RowKit

def potM (j : JobD) (x : WkD) : Nat := 2 * (j.tries * x.step) + 2 * x.try_ + x.state
def mostM (j : JobD) : Nat := if walkersJ j = 0 then 0 else 2 * (j.tries * j.length) + 1
structure EndI (j : JobD) (n : Nat) (x : WkD) : Prop where
  pot : n ≤ potM j x
  fin : x.step = j.length → x.try_ = 0 ∧ x.state = 0
  may : n = 0 ∨ mayW j x = true
theorem endI_go {j : JobD} {n : Nat} {x : WkD} (h : EndI j n x) (l : List ArcD) (t : List CellD) (he : (moveM j x l t).2 ≠ 0) : EndI j (n + 1) (moveM j x l t).1 := by
  have hm : mayW j x = true := by
    cases e : mayW j x with
    | true => rfl
    | false => exact absurd (by unfold moveM; rw [e]; rfl) he
  have d := mayW_dest hm
  have hs : x.step < j.length := by
    rcases d.state with ⟨h0, _⟩ | ⟨_, _, h1, _⟩
    · have := d.step
      rcases Nat.lt_or_ge x.step j.length with h1 | h1
      · exact h1
      · have e : x.step = j.length := by omega
        refine absurd ?_ he
        unfold moveM
        split
        · rfl
        · rw [if_neg (by omega), if_pos (.inl e)]
    · exact h1
  have hp := h.pot
  have ht := d.try_
  have hst : x.state ≤ 1 := by rcases d.state with ⟨h0, _⟩ | ⟨h0, _⟩ <;> omega
  rcases move_ok j x l t with ⟨h1, _⟩ | ⟨_, h2, _, h4, _, _, h7⟩ | ⟨_, h2, _, h4, h5, h6⟩
  · exact absurd h1 he
  · refine ⟨?_, fun e => by omega, .inr h2⟩
    unfold potM at hp ⊢
    rw [h4]
    rcases h7 with ⟨a, b⟩ | ⟨a, b, c⟩ <;> omega
  · refine ⟨?_, fun _ => ⟨h5, h6⟩, .inr h2⟩
    unfold potM at hp ⊢
    rw [h4, h5, h6, Nat.mul_add, Nat.mul_one]
    omega
theorem endI_le {j : JobD} {n : Nat} {x : WkD} (h : EndI j n x) : n ≤ 2 * (j.tries * j.length) := by
  rcases h.may with h0 | hm
  · omega
  · have d := mayW_dest hm
    have hp := h.pot
    have ht := d.try_
    have hst : x.state ≤ 1 := by rcases d.state with ⟨h0, _⟩ | ⟨h0, _⟩ <;> omega
    unfold potM at hp
    by_cases e : x.step = j.length
    · obtain ⟨a, b⟩ := h.fin e
      rw [a, b, e] at hp
      omega
    · have h1 : j.tries * (x.step + 1) ≤ j.tries * j.length := Nat.mul_le_mul_left _ (by have := d.step; omega)
      rw [Nat.mul_add, Nat.mul_one] at h1
      omega
theorem endI_new {j : JobD} {id : Nat} (h : srcH j id = true) : EndI j 0 (newJ j id) ∧ mostM j = 2 * (j.tries * j.length) + 1 := by
  have hw := of_decide_eq_true h
  refine ⟨⟨Nat.zero_le _, fun _ => ?_, .inl rfl⟩, ?_⟩
  · unfold newJ
    rw [if_pos hw]
    exact ⟨rfl, rfl⟩
  · unfold mostM
    rw [if_neg (by omega)]
theorem tl_le {j : JobD} (h1 : j.tries ≤ 8) (h2 : j.length ≤ 8) : j.tries * j.length ≤ 64 := Nat.mul_le_mul h1 h2

set_option maxHeartbeats 1600000 in
theorem most_any (j : JobD) (hj : JobOk j) (so : Option Addr) (sc : Nat) (w : World) (h1 : j.tries ≤ 8) (h2 : j.length ≤ 8) (hl : j.src.length ≤ 1000000) (hsrc : Rd w so j.src.length (u32s j.src)) :
    Calls Try.prog 22 #[.agg (jobCs j so sc)] w (RetB (.int .u64 (mostM j : Nat)) w) := by
  obtain ⟨W2, hW2⟩ : ∃ W2, W2 = w.alloc (.cells (jobCs j so sc) 28) := ⟨_, rfl⟩
  have HB2 := Lib.hid (show Below w.heap.size w W2 by rw [hW2]; exact ext_alloc w _)
  have HI := Lib.hid (jb_info j so sc)
  have HR2 := Lib.hid (show W2.heap[w.heap.size]? = some (.cells (jobCs j so sc) 28 (0, 0)) by rw [hW2]; exact heap_alloc_new w _)
  have HC := Lib.hid (fun W (h : Below W2.heap.size W2 W) => (show W.cell? ⟨w.heap.size, 9, none⟩ = some (.int .u32 (j.tries : Nat)) ∧ W.cell? ⟨w.heap.size, 2, none⟩ = some (.int .u32 (j.length : Nat)) from by
    have hr := (h.block _ (Array.getElem?_eq_some_iff.1 HR2.out).1).trans HR2.out
    exact ⟨cell_of_row W _ 9 _ _ (0, 0) hr, cell_of_row W _ 2 _ _ (0, 0) hr⟩))
  have HW := Lib.hid (fun W (h : Below w.heap.size w W) => (show Calls Try.prog 63 #[.agg (jobCs j so sc)] W (RetB (.int .u32 (walkersJ j : Nat)) W) from jwalkers_any j hj so sc W hl (hsrc.ext h)))
  have htl := tl_le h1 h2
  have hmo : mostM j = if walkersJ j = 0 then 0 else 2 * (j.tries * j.length) + 1 := rfl
  have Hmo := Lib.hid hmo
  clear hsrc hmo
  go_enter Try.func22, Try.ntmps22
  go_upto_region 1 with fail
  rw [← hW2]
  clear hW2
  generalize jobCs j so sc = jc at *
  generalize walkersJ j = wn at *
  generalize j.tries = T at *
  generalize j.length = L at *
  by_cases h0 : wn = 0
  · subst h0
    go_wp2_with (first
      | (refine wpList_load_row rfl _ _ rfl w.heap.size rfl 28 jc (0, 0) _ HR2.out Try.underlying28 rfl HI.out ?_)
      | (go_at_call 63; (with_reducible refine (HW.out _ HB2.out).mono ?_); rintro e w3 ⟨rfl, hB⟩; have B3 := Lib.hid (HB2.out.trans (hB.mono HB2.out.size)); clear hB))
    go_ret
    refine ⟨?_, B3.out⟩
    rw [Hmo.out]
    rfl
  · have e1 : (wn == 0) = false := beq_eq_false_iff_ne.2 h0
    have e1' : ((wn : Int) == 0) = false := beq_eq_false_iff_ne.2 (by omega)
    rw [if_neg h0] at Hmo
    have u1 : IntKind.u64.wrap (T : Int) = (T : Int) := IntWalk.u64_in _ (by omega)
    have u2 : IntKind.u64.wrap (L : Int) = (L : Int) := IntWalk.u64_in _ (by omega)
    have u3 : IntKind.u64.wrap (2 * (T : Int)) = 2 * (T : Int) := IntWalk.u64_in _ (by omega)
    obtain ⟨M, hM⟩ : ∃ M, M = T * L := ⟨_, rfl⟩
    have hc : (2 * (T : Int)) * (L : Int) = ((2 * M : Nat) : Int) := by rw [hM, Int.mul_assoc]; push_cast; rfl
    rw [← hM] at htl Hmo
    have u4 : IntKind.u64.wrap (2 * (T : Int) * (L : Int)) = ((2 * M : Nat) : Int) := by rw [hc]; exact IntWalk.u64_in _ (by omega)
    clear h0 hM hc
    have Hc := HC
    go_wp2_with (first
      | (refine wpList_load_row rfl _ _ rfl w.heap.size rfl 28 jc (0, 0) _ HR2.out Try.underlying28 rfl HI.out ?_)
      | (go_at_call 63; (with_reducible refine (HW.out _ HB2.out).mono ?_); rintro e w3 ⟨rfl, hB⟩; obtain ⟨c9, c2⟩ := Hc.out _ hB; have B3 := Lib.hid (HB2.out.trans (hB.mono HB2.out.size)); clear hB))
    go_ret
    refine ⟨?_, B3.out⟩
    rw [Hmo.out]
    refine congrArg (fun n => Ending.returned (Value.int .u64 n)) ?_
    simp [IntKind.wrap, IntKind.bits, IntKind.signed]
end Go.Proofs.Ytlgnpogmgpgdaaa

namespace Go.Proofs.Ytlgnpogmgpgdaaa
set_option linter.unusedSimpArgs false
set_option linter.unusedVariables false
set_option maxRecDepth 100000
open Go.RowKit

def zeroW (l : List EdgeD) : Bool := l.any fun x => x.2.2 == 0
def ofM (l : List EdgeD) : List RowD × Nat := if zeroW l = true then ([], 9) else rrows (keysM (sortR l))
def ofI (l : List EdgeD) (w : World) (i : Value) (wr : World) : Prop := ∃ k : Nat, k ≤ l.length ∧ i = .int .i64 (k : Nat) ∧ zeroW (l.take k) = false ∧ Below w.heap.size w wr
theorem zeroW_take (l : List EdgeD) (k : Nat) (h : k < l.length) : zeroW (l.take (k + 1)) = (zeroW (l.take k) || l[k].2.2 == 0) := by
  unfold zeroW
  rw [List.take_succ_eq_append_getElem h, List.any_append]
  simp
theorem zeroW_at {l : List EdgeD} {k : Nat} (h : k < l.length) (e : l[k].2.2 = 0) : zeroW l = true := by
  unfold zeroW
  rw [List.any_eq_true]
  exact ⟨l[k], List.getElem_mem h, by simp [e]⟩
theorem RowsRet.lift {r : List RowD × Nat} {w W : World} (hB : Below w.heap.size w W) {e : Ending} {w' : World} (h : RowsRet r W e w') : RowsRet r w e w' := by
  obtain ⟨ao, cap, h1, h2, h3, h4, h5⟩ := h
  exact ⟨ao, cap, h1, h2, h3, h4.mono (fun b hb _ => Nat.le_trans hB.size hb), hB.trans (h5.mono hB.size)⟩

set_option maxRecDepth 100000 in
set_option maxHeartbeats 3200000 in
theorem rof15_any (l : List EdgeD) (ao : Option Addr) (cap : Nat) (fp : Nat → Prop) (w : World) (hl : l.length ≤ 100000) (hrd : RdS edgeRep fp w ao l) :
    Calls Try.prog 19 #[.slice ao l.length cap] w (RowsRet (ofM l) w) := by
  have HS := Lib.hid (fun W (h : Below w.heap.size w W) => rsorted_any l ao cap fp W hl (hrd.ext h))
  have Hrd := Lib.hid hrd
  clear hrd
  go_enter Try.func19, Try.ntmps19
  go_wp2_with fail
  go_loopw [7] (fun i wr => ofI l w i wr) (fun i _ => l.length - (intOf i).toNat)
  case atStart => exact ⟨0, by omega, rfl, rfl, Below.refl _ _⟩
  case round =>
    obtain ⟨k, hk, rfl, hz, hB⟩ := hrel
    rename World => wo
    have HB := Lib.hid hB
    by_cases hlt : k < l.length
    · obtain ⟨bb, off, rfl, hbb, _, _, hc2', hok⟩ := Hrd.out.edgeM k hlt
      have hc2 := ((bcell hB).1 _ _ hbb).trans hc2'
      have hir : (k : Int) < (l.length : Int) := by omega
      have hst := zeroW_take l k hlt
      rw [hz, Bool.false_or] at hst
      have hat := @zeroW_at l k hlt
      clear hc2' hB hz hok
      generalize l[k] = x at hc2 hst hat
      obtain ⟨x0, x1, x2⟩ := x
      simp only at hc2 hst hat
      by_cases h0 : x2 = 0
      · subst h0
        have hv := hat rfl
        have HF := Lib.hid (fun c => (show RowsRet (ofM l) w (.returned (.tuple #[.slice (some ⟨wo.heap.size, 0, none⟩) 0 c, .int .i64 9])) (wo.alloc (.cells #[] 80)) ∨ c ≠ 0 from by
          by_cases hc : c = 0
          · subst hc
            left
            unfold ofM
            rw [if_pos hv]
            exact ⟨_, 0, rfl, Nat.le_refl _, by simp [maxLen], .inl rfl, HB.out.alloc HB.out.size _⟩
          · exact .inr hc))
        clear hst hat hv
        go_wp2_with fail
        go_ret2
        exact (HF.out 0).resolve_right (by simp)
      · have e1 : (x2 == 0) = false := beq_eq_false_iff_ne.2 h0
        have e1' : ((x2 : Int) == 0) = false := beq_eq_false_iff_ne.2 (by omega)
        rw [e1] at hst
        have Hst := Lib.hid hst
        clear hst hat h0
        go_wp2_with fail
        exact ⟨⟨k + 1, by omega, by go_num, Hst.out, HB.out⟩, by simp [intOf]; omega⟩
    · obtain rfl : k = l.length := by omega
      rw [List.take_length] at hz
      have Hz := Lib.hid hz
      clear hz hB
      have hsl := sortR_len l
      have HKs := Lib.hid (fun (a : Option Addr) (c : Nat) (f : Nat → Prop) (W : World) (h : RdS edgeRep f W a (sortR l)) => rkeys_any (sortR l) a c f W (by omega) h)
      have HRw := Lib.hid (fun (a : Option Addr) (c : Nat) (W : World) (h : RdS (Rep.slice Rep.u8) (fun k => k < W.heap.size) W a (keysM (sortR l))) => rrows_any (keysM (sortR l)) a c W (by rw [keysM, List.length_map]; omega) h)
      have hof : ofM l = rrows (keysM (sortR l)) := by unfold ofM; rw [if_neg (by rw [Hz.out]; simp)]
      have Hof := Lib.hid hof
      clear hsl hof
      generalize sortR l = S at *
      generalize keysM S = K at *
      go_wp2_with (first
        | (go_at_call 62; (with_reducible refine (HS.out _ HB.out).mono ?_); rintro e w2 ⟨a1, c1, rfl, _, _, hr1, hB⟩; have R1 := Lib.hid hr1; have B2 := Lib.hid (HB.out.trans (hB.mono HB.out.size)); clear hB hr1)
        | (go_at_call 61; (with_reducible refine (HKs.out _ _ _ _ R1.out).mono ?_); rintro e w3 ⟨a2, c2, rfl, _, _, hr2, hB⟩; have R2 := Lib.hid (hr2.mono (fun b _ hl => hl)); have B3 := Lib.hid (B2.out.trans (hB.mono B2.out.size)); clear hB hr2)
        | (go_at_call 60; (with_reducible refine (HRw.out _ _ _ R2.out).mono ?_); rintro e w4 hh; obtain ⟨a3, c3, rfl, h3, h4, hr3, hB⟩ := hh.lift B3.out; have R3 := Lib.hid hr3; have B4 := Lib.hid hB; have L3 := Lib.hid (And.intro h3 h4); clear hB hr3 h3 h4 hh))
      go_ret2
      show RowsRet (ofM l) w _ _
      rw [Hof.out]
      exact ⟨a3, c3, rfl, L3.out.1, L3.out.2, R3.out, B4.out⟩

/-- a vertex's arcs -/
def arcs15M (rows : List RowD) (v : Nat) : List ArcD := match rows.find? (fun r => r.1 == v) with
  | some r => r.2
  | none => []
def ArcsOf (l : List ArcD) (fp : Nat → Prop) (w : World) (e : Ending) (w' : World) : Prop :=
  ∃ a c, e = .returned (.slice a l.length c) ∧ l.length ≤ c ∧ c ≤ maxLen ∧ RdS arcRep fp w' a l ∧ Below w.heap.size w w'
def arcs15I (rows : List RowD) (v : Nat) (w : World) (i : Value) (wr : World) : Prop := ∃ k : Nat, k ≤ rows.length ∧ i = .int .i64 (k : Nat) ∧ (rows.take k).find? (fun r => r.1 == v) = none ∧ Below w.heap.size w wr
theorem find_take {rows : List RowD} {v k : Nat} (h : k < rows.length) (hn : (rows.take k).find? (fun r => r.1 == v) = none) : (rows.take (k + 1)).find? (fun r => r.1 == v) = if rows[k].1 == v then some rows[k] else none := by
  rw [List.take_succ_eq_append_getElem h, List.find?_append, hn]
  simp [List.find?_cons]
  split <;> simp_all
theorem find_hit {rows : List RowD} {v k : Nat} (h : k < rows.length) (hn : (rows.take k).find? (fun r => r.1 == v) = none) (e : rows[k].1 = v) : arcs15M rows v = rows[k].2 := by
  have h1 := find_take h hn
  rw [if_pos (by simp [e])] at h1
  have h2 : rows.find? (fun r => r.1 == v) = some rows[k] := by
    generalize rows[k] = r at h1
    rw [← List.take_append_drop (k + 1) rows, List.find?_append, h1]
    rfl
  simp only [arcs15M, h2]
set_option maxRecDepth 100000 in
set_option maxHeartbeats 3200000 in
theorem arcs15_any (rows : List RowD) (v : Nat) (ao : Option Addr) (cap : Nat) (fp : Nat → Prop) (w : World) (hl : rows.length ≤ 1000000) (hrd : RdS rowRep fp w ao rows) :
    Calls Try.prog 21 #[.slice ao rows.length cap, .int .u32 (v : Nat)] w (ArcsOf (arcs15M rows v) fp w) := by
  have Hrd := Lib.hid hrd
  clear hrd
  go_enter Try.func21, Try.ntmps21
  go_wp2_with fail
  go_loopw [8] (fun i wr => arcs15I rows v w i wr) (fun i _ => rows.length - (intOf i).toNat)
  case atStart => exact ⟨0, by omega, rfl, rfl, Below.refl _ _⟩
  case round =>
    obtain ⟨k, hk, rfl, hn, hB⟩ := hrel
    rename World => wo
    have HB := Lib.hid hB
    by_cases hlt : k < rows.length
    · obtain ⟨bb, off, ra, rc, rfl, hbb, hc0', hc1', _, h2, h3, hr⟩ := Hrd.out.row k hlt
      have hc0 := ((bcell hB).1 _ _ hbb).trans hc0'
      have hc1 := ((bcell hB).1 _ _ hbb).trans hc1'
      have hir : (k : Int) < (rows.length : Int) := by omega
      have hft := find_take hlt hn
      have hhit := find_hit hlt hn
      have HR := Lib.hid (hr.ext hB)
      have HL := Lib.hid (And.intro h2 h3)
      clear hc0' hc1' hB hn hr h2 h3
      generalize rows[k] = r at hc0 hc1 hft hhit HR HL
      obtain ⟨r0, rl⟩ := r
      simp only at hc0 hc1 hft hhit HR HL
      by_cases h0 : r0 = v
      · have e1 : (r0 == v) = true := beq_iff_eq.2 h0
        have e1' : ((r0 : Int) == (v : Int)) = true := beq_iff_eq.2 (by omega)
        have Hh := Lib.hid (hhit h0)
        clear hft hhit h0
        go_wp2_with fail
        go_ret
        rw [Hh.out]
        exact ⟨ra, rc, rfl, HL.out.1, HL.out.2, HR.out, HB.out⟩
      · have e1 : (r0 == v) = false := beq_eq_false_iff_ne.2 h0
        have e1' : ((r0 : Int) == (v : Int)) = false := beq_eq_false_iff_ne.2 (by omega)
        rw [e1, if_neg (by simp)] at hft
        have Hft := Lib.hid hft
        clear hft hhit h0
        go_wp2_with fail
        exact ⟨⟨k + 1, by omega, by go_num, Hft.out, HB.out⟩, by simp [intOf]; omega⟩
    · obtain rfl : k = rows.length := by omega
      rw [List.take_length] at hn
      have Hn := Lib.hid hn
      clear hn hB
      have hv : arcs15M rows v = [] := by simp only [arcs15M, Hn.out]
      have Hv := Lib.hid hv
      clear hv
      go_wp2_with fail
      go_ret
      show ArcsOf (arcs15M rows v) fp w _ _
      rw [Hv.out]
      exact ⟨_, 0, rfl, Nat.le_refl _, by simp [maxLen], .inl rfl, HB.out.alloc HB.out.size _⟩
end Go.Proofs.Ytlgnpogmgpgdaaa

namespace Go.Proofs.Ytlgnpogmgpgdaaa
set_option linter.unusedSimpArgs false
set_option linter.unusedVariables false
set_option maxRecDepth 100000
open Go.RowKit

theorem addArc_len15 (A : List ArcD) (x : EdgeD) : (addArc A x).length ≤ A.length + 1 := by
  unfold addArc
  split
  · rename_i y h
    have hl : 0 < A.length := by
      cases A with
      | nil => simp at h
      | cons a A => simp
    split
    · simp <;> omega
    · simp
  · simp
theorem withR_len (m : Nat) (out : List RowD) (x : EdgeD) (h : ∀ r ∈ out, r.2.length ≤ m) : (∀ r ∈ withR out x, r.2.length ≤ m + 1) ∧ (withR out x).length ≤ out.length + 1 := by
  unfold withR
  split
  · rename_i r hr
    have hm := List.mem_of_getLast? hr
    split
    · refine ⟨fun y hy => ?_, ?_⟩
      · rcases List.mem_append.1 hy with hy | hy
        · have := h y (List.dropLast_subset _ hy); omega
        · simp only [List.mem_singleton] at hy
          subst hy
          have h1 := addArc_len15 r.2 x
          have h2 := h r hm
          simp only
          omega
      · simp <;> omega
    · refine ⟨fun y hy => ?_, by simp⟩
      rcases List.mem_append.1 hy with hy | hy
      · have := h y hy; omega
      · simp only [List.mem_singleton] at hy; subst hy; simp
  · refine ⟨fun y hy => ?_, by simp⟩
    simp only [List.mem_singleton] at hy; subst hy; simp
theorem rrowsGo_len : ∀ (ks : List (List UInt8)) (m : Nat) (out : List RowD) (e : Option EdgeD), (∀ r ∈ out, r.2.length ≤ m) → out.length ≤ m → (∀ r ∈ (rrowsGo out e ks).1, r.2.length ≤ m + ks.length) ∧ (rrowsGo out e ks).1.length ≤ m + ks.length
  | [], m, out, e, h, h2 => by unfold rrowsGo; exact ⟨fun r hr => by have := h r hr; simp only [List.length_nil]; omega, by simp only [List.length_nil]; omega⟩
  | k :: ks, m, out, e, h, h2 => by
    unfold rrowsGo
    split
    · simp
    split
    · simp
    split
    · simp
    have h3 := withR_len m out (keyE k) h
    have h4 := rrowsGo_len ks (m + 1) (withR out (keyE k)) (some (keyE k)) h3.1 (by omega)
    rw [List.length_cons, show m + (ks.length + 1) = m + 1 + ks.length by omega]
    exact h4
theorem ofM_len (l : List EdgeD) : (∀ r ∈ (ofM l).1, r.2.length ≤ l.length) ∧ (ofM l).1.length ≤ l.length := by
  unfold ofM
  split
  · simp
  · have h := rrowsGo_len (keysM (sortR l)) 0 [] none (by simp) (by simp)
    rw [Nat.zero_add, keysM, List.length_map, sortR_len] at h
    exact h
theorem arcs15M_len (l : List EdgeD) (v : Nat) : (arcs15M (ofM l).1 v).length ≤ l.length := by
  unfold arcs15M
  split
  · rename_i r h
    exact (ofM_len l).1 r (List.mem_of_find?_eq_some h)
  · simp
end Go.Proofs.Ytlgnpogmgpgdaaa
