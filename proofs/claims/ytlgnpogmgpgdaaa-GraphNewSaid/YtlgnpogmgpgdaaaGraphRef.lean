/- The reference's graph: Of, Arcs. -/
import Derived.Test.YtlgnpogmgpgdaaaBdRows
namespace Go.Proofs.Ytlgnpogmgpgdaaa
set_option linter.unusedSimpArgs false
set_option linter.unusedVariables false
set_option maxRecDepth 100000
open Go.RowKit

def zeroW (l : List EdgeD) : Bool := l.any fun x => x.2.2 == 0
def ofM (l : List EdgeD) : List RowD × Nat := if zeroW l = true then ([], 9) else rrows (keysM (sortR l))
def ofI (l : List EdgeD) (w : World) (i : Value) (wr : World) : Prop := ∃ k : Nat, k ≤ l.length ∧ i = .int .i64 (k : Nat) ∧ zeroW (l.take k) = false ∧ Below w.heap.size w wr
theorem zeroW_take (l : List EdgeD) (k : Nat) (h : k < l.length) : zeroW (l.take (k + 1)) = (zeroW (l.take k) || l[k].2.2 == 0) := by
  unfold zeroW
  rw [List.take_succ_eq_append_getElem h, List.any_append]
  simp
theorem zeroW_at {l : List EdgeD} {k : Nat} (h : k < l.length) (e : l[k].2.2 = 0) : zeroW l = true := by
  unfold zeroW
  rw [List.any_eq_true]
  exact ⟨l[k], List.getElem_mem h, by simp [e]⟩
theorem RowsRet.lift {r : List RowD × Nat} {w W : World} (hB : Below w.heap.size w W) {e : Ending} {w' : World} (h : RowsRet r W e w') : RowsRet r w e w' := by
  obtain ⟨ao, cap, h1, h2, h3, h4, h5⟩ := h
  exact ⟨ao, cap, h1, h2, h3, h4.mono (fun b hb _ => Nat.le_trans hB.size hb), hB.trans (h5.mono hB.size)⟩

set_option maxRecDepth 100000 in
set_option maxHeartbeats 3200000 in
theorem rof15_any (l : List EdgeD) (ao : Option Addr) (cap : Nat) (fp : Nat → Prop) (w : World) (hl : l.length ≤ 100000) (hrd : RdS edgeRep fp w ao l) :
    Calls Try.prog 19 #[.slice ao l.length cap] w (RowsRet (ofM l) w) := by
  have HS := Lib.hid (fun W (h : Below w.heap.size w W) => rsorted_any l ao cap fp W hl (hrd.ext h))
  have Hrd := Lib.hid hrd
  clear hrd
  go_enter Try.func19, Try.ntmps19
  go_wp2_with fail
  go_loopw [7] (fun i wr => ofI l w i wr) (fun i _ => l.length - (intOf i).toNat)
  case atStart => exact ⟨0, by omega, rfl, rfl, Below.refl _ _⟩
  case round =>
    obtain ⟨k, hk, rfl, hz, hB⟩ := hrel
    rename World => wo
    have HB := Lib.hid hB
    by_cases hlt : k < l.length
    · obtain ⟨bb, off, rfl, hbb, _, _, hc2', hok⟩ := Hrd.out.edgeM k hlt
      have hc2 := ((bcell hB).1 _ _ hbb).trans hc2'
      have hir : (k : Int) < (l.length : Int) := by omega
      have hst := zeroW_take l k hlt
      rw [hz, Bool.false_or] at hst
      have hat := @zeroW_at l k hlt
      clear hc2' hB hz hok
      generalize l[k] = x at hc2 hst hat
      obtain ⟨x0, x1, x2⟩ := x
      simp only at hc2 hst hat
      by_cases h0 : x2 = 0
      · subst h0
        have hv := hat rfl
        have HF := Lib.hid (fun c => (show RowsRet (ofM l) w (.returned (.tuple #[.slice (some ⟨wo.heap.size, 0, none⟩) 0 c, .int .i64 9])) (wo.alloc (.cells #[] 80)) ∨ c ≠ 0 from by
          by_cases hc : c = 0
          · subst hc
            left
            unfold ofM
            rw [if_pos hv]
            exact ⟨_, 0, rfl, Nat.le_refl _, by simp [maxLen], .inl rfl, HB.out.alloc HB.out.size _⟩
          · exact .inr hc))
        clear hst hat hv
        go_wp2_with fail
        go_ret2
        exact (HF.out 0).resolve_right (by simp)
      · have e1 : (x2 == 0) = false := beq_eq_false_iff_ne.2 h0
        have e1' : ((x2 : Int) == 0) = false := beq_eq_false_iff_ne.2 (by omega)
        rw [e1] at hst
        have Hst := Lib.hid hst
        clear hst hat h0
        go_wp2_with fail
        exact ⟨⟨k + 1, by omega, by go_num, Hst.out, HB.out⟩, by simp [intOf]; omega⟩
    · obtain rfl : k = l.length := by omega
      rw [List.take_length] at hz
      have Hz := Lib.hid hz
      clear hz hB
      have hsl := sortR_len l
      have HKs := Lib.hid (fun (a : Option Addr) (c : Nat) (f : Nat → Prop) (W : World) (h : RdS edgeRep f W a (sortR l)) => rkeys_any (sortR l) a c f W (by omega) h)
      have HRw := Lib.hid (fun (a : Option Addr) (c : Nat) (W : World) (h : RdS (Rep.slice Rep.u8) (fun k => k < W.heap.size) W a (keysM (sortR l))) => rrows_any (keysM (sortR l)) a c W (by rw [keysM, List.length_map]; omega) h)
      have hof : ofM l = rrows (keysM (sortR l)) := by unfold ofM; rw [if_neg (by rw [Hz.out]; simp)]
      have Hof := Lib.hid hof
      clear hsl hof
      generalize sortR l = S at *
      generalize keysM S = K at *
      go_wp2_with (first
        | (go_at_call 62; (with_reducible refine (HS.out _ HB.out).mono ?_); rintro e w2 ⟨a1, c1, rfl, _, _, hr1, hB⟩; have R1 := Lib.hid hr1; have B2 := Lib.hid (HB.out.trans (hB.mono HB.out.size)); clear hB hr1)
        | (go_at_call 61; (with_reducible refine (HKs.out _ _ _ _ R1.out).mono ?_); rintro e w3 ⟨a2, c2, rfl, _, _, hr2, hB⟩; have R2 := Lib.hid (hr2.mono (fun b _ hl => hl)); have B3 := Lib.hid (B2.out.trans (hB.mono B2.out.size)); clear hB hr2)
        | (go_at_call 60; (with_reducible refine (HRw.out _ _ _ R2.out).mono ?_); rintro e w4 hh; obtain ⟨a3, c3, rfl, h3, h4, hr3, hB⟩ := hh.lift B3.out; have R3 := Lib.hid hr3; have B4 := Lib.hid hB; have L3 := Lib.hid (And.intro h3 h4); clear hB hr3 h3 h4 hh))
      go_ret2
      show RowsRet (ofM l) w _ _
      rw [Hof.out]
      exact ⟨a3, c3, rfl, L3.out.1, L3.out.2, R3.out, B4.out⟩

/-- a vertex's arcs -/
def arcs15M (rows : List RowD) (v : Nat) : List ArcD := match rows.find? (fun r => r.1 == v) with
  | some r => r.2
  | none => []
def ArcsOf (l : List ArcD) (fp : Nat → Prop) (w : World) (e : Ending) (w' : World) : Prop :=
  ∃ a c, e = .returned (.slice a l.length c) ∧ l.length ≤ c ∧ c ≤ maxLen ∧ RdS arcRep fp w' a l ∧ Below w.heap.size w w'
def arcs15I (rows : List RowD) (v : Nat) (w : World) (i : Value) (wr : World) : Prop := ∃ k : Nat, k ≤ rows.length ∧ i = .int .i64 (k : Nat) ∧ (rows.take k).find? (fun r => r.1 == v) = none ∧ Below w.heap.size w wr
theorem find_take {rows : List RowD} {v k : Nat} (h : k < rows.length) (hn : (rows.take k).find? (fun r => r.1 == v) = none) : (rows.take (k + 1)).find? (fun r => r.1 == v) = if rows[k].1 == v then some rows[k] else none := by
  rw [List.take_succ_eq_append_getElem h, List.find?_append, hn]
  simp [List.find?_cons]
  split <;> simp_all
theorem find_hit {rows : List RowD} {v k : Nat} (h : k < rows.length) (hn : (rows.take k).find? (fun r => r.1 == v) = none) (e : rows[k].1 = v) : arcs15M rows v = rows[k].2 := by
  have h1 := find_take h hn
  rw [if_pos (by simp [e])] at h1
  have h2 : rows.find? (fun r => r.1 == v) = some rows[k] := by
    generalize rows[k] = r at h1
    rw [← List.take_append_drop (k + 1) rows, List.find?_append, h1]
    rfl
  simp only [arcs15M, h2]
set_option maxRecDepth 100000 in
set_option maxHeartbeats 3200000 in
theorem arcs15_any (rows : List RowD) (v : Nat) (ao : Option Addr) (cap : Nat) (fp : Nat → Prop) (w : World) (hl : rows.length ≤ 1000000) (hrd : RdS rowRep fp w ao rows) :
    Calls Try.prog 21 #[.slice ao rows.length cap, .int .u32 (v : Nat)] w (ArcsOf (arcs15M rows v) fp w) := by
  have Hrd := Lib.hid hrd
  clear hrd
  go_enter Try.func21, Try.ntmps21
  go_wp2_with fail
  go_loopw [8] (fun i wr => arcs15I rows v w i wr) (fun i _ => rows.length - (intOf i).toNat)
  case atStart => exact ⟨0, by omega, rfl, rfl, Below.refl _ _⟩
  case round =>
    obtain ⟨k, hk, rfl, hn, hB⟩ := hrel
    rename World => wo
    have HB := Lib.hid hB
    by_cases hlt : k < rows.length
    · obtain ⟨bb, off, ra, rc, rfl, hbb, hc0', hc1', _, h2, h3, hr⟩ := Hrd.out.row k hlt
      have hc0 := ((bcell hB).1 _ _ hbb).trans hc0'
      have hc1 := ((bcell hB).1 _ _ hbb).trans hc1'
      have hir : (k : Int) < (rows.length : Int) := by omega
      have hft := find_take hlt hn
      have hhit := find_hit hlt hn
      have HR := Lib.hid (hr.ext hB)
      have HL := Lib.hid (And.intro h2 h3)
      clear hc0' hc1' hB hn hr h2 h3
      generalize rows[k] = r at hc0 hc1 hft hhit HR HL
      obtain ⟨r0, rl⟩ := r
      simp only at hc0 hc1 hft hhit HR HL
      by_cases h0 : r0 = v
      · have e1 : (r0 == v) = true := beq_iff_eq.2 h0
        have e1' : ((r0 : Int) == (v : Int)) = true := beq_iff_eq.2 (by omega)
        have Hh := Lib.hid (hhit h0)
        clear hft hhit h0
        go_wp2_with fail
        go_ret
        rw [Hh.out]
        exact ⟨ra, rc, rfl, HL.out.1, HL.out.2, HR.out, HB.out⟩
      · have e1 : (r0 == v) = false := beq_eq_false_iff_ne.2 h0
        have e1' : ((r0 : Int) == (v : Int)) = false := beq_eq_false_iff_ne.2 (by omega)
        rw [e1, if_neg (by simp)] at hft
        have Hft := Lib.hid hft
        clear hft hhit h0
        go_wp2_with fail
        exact ⟨⟨k + 1, by omega, by go_num, Hft.out, HB.out⟩, by simp [intOf]; omega⟩
    · obtain rfl : k = rows.length := by omega
      rw [List.take_length] at hn
      have Hn := Lib.hid hn
      clear hn hB
      have hv : arcs15M rows v = [] := by simp only [arcs15M, Hn.out]
      have Hv := Lib.hid hv
      clear hv
      go_wp2_with fail
      go_ret
      show ArcsOf (arcs15M rows v) fp w _ _
      rw [Hv.out]
      exact ⟨_, 0, rfl, Nat.le_refl _, by simp [maxLen], .inl rfl, HB.out.alloc HB.out.size _⟩
end Go.Proofs.Ytlgnpogmgpgdaaa
