/- The reference's Print, May. -/
import Derived.Test.YtafbjkbdfdeacaaEdgePrintW
import Derived.Laws.IdiomStrings
namespace Go.Proofs.Ytafbjkbdfdeacaa
set_option linter.unusedSimpArgs false
set_option linter.unusedVariables false
open Go.RowKit

theorem conv_sb (l : List UInt8) (W : World) : ∃ cap W', (convert 9 25 (.string (bs l))).run Try.prog W = .ok (.slice (some ⟨W.heap.size, 0, none⟩) l.length cap) W' ∧ Below W.heap.size W W' ∧ Rd W' (some ⟨W.heap.size, 0, none⟩) l.length (byteVals l) := by
  have h := run_bytes_of_string (P := Try.prog) W 9 25 5 (bs l) Try.underlying9 Try.underlying25 Try.underlying5
  rw [bs_size] at h
  refine ⟨_, _, h, (ext_drew W).alloc (by simp) _, by simp [byteVals], .inr ⟨W.heap.size, 0, rfl, by simp, fun j hj => ?_⟩⟩
  rw [Nat.zero_add]
  have hc : ((W.drew).alloc (.cells (bytesRow (bs l) (grownCap W l.length 0 5)) 5 ((bytesRow (bs l) (grownCap W l.length 0 5)).size, (bytesRow (bs l) (grownCap W l.length 0 5)).size + 1))).cell? ⟨W.heap.size, j, none⟩ = (bytesRow (bs l) (grownCap W l.length 0 5))[j]? :=
    World.cell?_alloc_mark W.drew _ _ _ j
  rw [hc, bytesRow_at _ _ _ (by simpa [bs] using hj)]
  simp [byteVals, bs, List.getElem?_eq_getElem hj]

set_option maxRecDepth 100000 in
set_option maxHeartbeats 3200000 in
theorem erprint_any (l : List EdgeD) (ao : Option Addr) (cap : Nat) (fp : Nat → Prop) (w : World) (hl : l.length ≤ 1073741824) (hp : (printE l).length ≤ 1073741600) (hrd : RdS edgeRep fp w ao l) :
    Calls Try.prog 38 #[.slice ao l.length cap] w (RetOwn 5 1 (printE l).length (byteVals (printE l)) w) := by
  have hE := bytesElem
  have Hrd := Lib.hid hrd
  clear hrd
  go_enter Try.func38, Try.ntmps38
  go_wp2_with fail
  go_loopw [3, 8] (fun o i wr => ∃ k : Nat, k ≤ l.length ∧ i = .int .i64 (k : Nat) ∧ prE w (printE (l.take k)) o wr) (fun _ i _ => l.length - (intOf i).toNat)
  case atStart => exact ⟨0, by omega, rfl, some ⟨w.heap.size, 0, none⟩, 0, some w.heap.size, by simp [printE], by simpa [printE, byteVals] using Own.emptyAt w 5 1 w.heap.size rfl, (fun k h => by cases h; exact Nat.le_refl _), ext_alloc w _⟩
  case round =>
    obtain ⟨k, hk, rfl, ao', cap', g, rfl, ho, hg, hB⟩ := hrel
    obtain ⟨wo, rfl⟩ : ∃ wo : World, wo = wr := ⟨_, rfl⟩
    have Ho := Lib.hid ho
    have Hg := Lib.hid hg
    have HB := Lib.hid hB
    have hs := hB.size
    clear ho hg hB
    by_cases hlt : k < l.length
    · obtain ⟨b, off, rfl, hb, hc0', hc1', hc2', hok⟩ := Hrd.out.edge k hlt
      have hc0 := ((bcell HB.out).1 _ _ hb).trans hc0'
      have hc1 := ((bcell HB.out).1 _ _ hb).trans hc1'
      have hc2 := ((bcell HB.out).1 _ _ hb).trans hc2'
      clear hc0' hc1' hc2'
      have hir : (k : Int) < (l.length : Int) := by omega
      have htk := takeE l k hlt
      have hm1 := monoE l (k + 1)
      generalize l[k] = x at hc0 hc1 hc2 hok htk
      obtain ⟨x0, x1, x2⟩ := x
      obtain ⟨P, hP⟩ : ∃ P, printE (l.take k) = P := ⟨_, rfl⟩
      rw [hP] at htk
      rw [htk] at hm1
      simp only [List.length_append] at hm1
      simp only [hP]
      have Ho' : Hid (Own wo ao' cap' g 5 1 P.length (byteVals P)) := by rw [← hP]; exact Ho
      have hL := fun W => eline_any x0 x1 x2 hok.1 hok.2.1 hok.2.2 W
      have hS := fun W => conv_sb (lineE (x0, x1, x2)) W
      generalize lineE (x0, x1, x2) = L at hL hS htk hm1
      have hk2 := fun (W : World) (a : Option Addr) (c : Nat) (h : Rd W a L.length (byteVals L)) => h.src Try.underlying25 c (byteVals_one L)
      have Hk2 := Lib.hid hk2
      have Htk := Lib.hid htk
      have HL := Lib.hid hL
      have HS := Lib.hid hS
      clear htk hP Ho hL hS hk2
      simp only at hc0 hc1 hc2
      go_wp2_with (first
        | (go_at_call 36; refine (HL.out _).mono ?_; rintro e w2 ⟨rfl, hB2⟩; obtain ⟨cc, W', hcv, hBv, hRv⟩ := HS.out w2; have HB2 := Lib.hid (hB2.trans (hBv.mono hB2.size)); have HRv := Lib.hid hRv; clear hB2 hBv hRv)
        | (at_builtin; refine wpList_app rfl (.tmp 11) (.tmp 17) 25 25 rfl hE (Ho'.out.ext HB2.out) rfl rfl (Hk2.out _ _ _ HRv.out) (by simp [maxLen]; omega) (by omega) ?_; intro ao4 cap4 g4 W4 ho4 hg4 hon4; have Ho5 := Lib.hid ho4; have Hg4 := Lib.hid hg4; have Hon4 := Lib.hid hon4; clear ho4 hg4 hon4))
      have hs2 := HB2.out.size
      refine ⟨⟨k + 1, by omega, by go_num, ao4, cap4, g4, by rw [Htk.out]; simp, by rw [Htk.out]; simpa [byteVals] using Ho5.out, fun k h => ?_, ((HB.out.trans (HB2.out.mono hs))).trans (Hon4.out.below (by omega) (fun k hk e => by have := Hg.out k e; omega))⟩, by simp [intOf]; omega⟩
      rcases Hg4.out with rfl | rfl
      · exact Hg.out k h
      · cases h; omega
    · obtain rfl : k = l.length := by omega
      have hpe : printE (l.take l.length) = printE l := by rw [List.take_length]
      rw [hpe] at Ho ⊢
      clear hpe
      go_wp2_with fail
      go_ret
      exact ⟨ao', cap', g, rfl, Ho.out, Hg.out, HB.out⟩

open Classical in
noncomputable def allMay (l : List EdgeD) : Bool := decide (∀ x ∈ l, mayE x)
open Classical in
theorem allMay_yes {l : List EdgeD} (h : ∀ x ∈ l, mayE x) : allMay l = true := by unfold allMay; exact decide_eq_true h
open Classical in
theorem allMay_no {l : List EdgeD} (h : ¬ ∀ x ∈ l, mayE x) : allMay l = false := by unfold allMay; exact decide_eq_false h
def emayI (l : List EdgeD) (w : World) (i : Value) (wr : World) : Prop := ∃ k : Nat, k ≤ l.length ∧ i = .int .i64 (k : Nat) ∧ (∀ j (h : j < l.length), j < k → mayE l[j]) ∧ wr = w

set_option maxRecDepth 100000 in
set_option maxHeartbeats 1600000 in
theorem emay_any (l : List EdgeD) (ao : Option Addr) (cap : Nat) (fp : Nat → Prop) (w : World) (hl : l.length ≤ 1073741824) (hrd : RdS edgeRep fp w ao l) :
    Calls Try.prog 35 #[.slice ao l.length cap] w fun e w' => e = .returned (.bool (allMay l)) ∧ w' = w := by
  have Hrd := Lib.hid hrd
  clear hrd
  go_enter Try.func35, Try.ntmps35
  go_wp2_with fail
  go_loopw [6] (fun i wr => emayI l w i wr) (fun i _ => l.length - (intOf i).toNat)
  case atStart => exact ⟨0, by omega, rfl, fun j _ h => by omega, rfl⟩
  case round =>
    obtain ⟨k, hk, rfl, hall, rfl⟩ := hrel
    have Hall := Lib.hid hall
    clear hall
    by_cases hlt : k < l.length
    · obtain ⟨b, off, rfl, hb, hc0, hc1, hc2, hok⟩ := Hrd.out.edge k hlt
      have hir : (k : Int) < (l.length : Int) := by omega
      have hx : l[k] ∈ l := List.getElem_mem hlt
      obtain ⟨x, hxe⟩ : ∃ x, l[k] = x := ⟨_, rfl⟩
      rw [hxe] at hc2 hx hok
      have Hxe := Lib.hid hxe
      have Hx := Lib.hid hx
      have hx2 := hok.2.2
      clear hxe hx hc0 hc1 hok
      by_cases hm : mayE x
      · have h1 : decide ((x.2.2 : Int) < 1) = false := decide_eq_false (by have := hm.1; omega)
        have h2 : decide ((2147483647 : Int) < (x.2.2 : Int)) = false := decide_eq_false (by have := hm.2; omega)
        have h3 : decide (2147483647 < x.2.2) = false := decide_eq_false (by have := hm.2; omega)
        have h4 : decide (x.2.2 < 1) = false := decide_eq_false (by have := hm.1; omega)
        have Hm := Lib.hid hm
        clear hm
        go_wp2_with fail
        refine ⟨⟨k + 1, by omega, by go_num, fun j h hj => ?_, rfl⟩, by simp [intOf]; omega⟩
        by_cases hjk : j < k
        · exact Hall.out j h hjk
        · obtain rfl : j = k := by omega
          rw [Hxe.out]; exact Hm.out
      · have hno := allMay_no (l := l) (fun h => hm (h x Hx.out))
        have Hno := Lib.hid hno
        have h12 : x.2.2 < 1 ∨ 2147483647 < x.2.2 := by unfold mayE at hm; omega
        clear hm hno
        rcases h12 with h12 | h12
        · have h1 : decide ((x.2.2 : Int) < 1) = true := decide_eq_true (by omega)
          go_wp2_with fail
          go_ret
          exact ⟨congrArg (fun b => Ending.returned (Value.bool b)) Hno.out.symm, rfl⟩
        · have h1 : decide ((x.2.2 : Int) < 1) = false := decide_eq_false (by omega)
          have h2 : decide ((2147483647 : Int) < (x.2.2 : Int)) = true := decide_eq_true (by omega)
          have h3 : decide (2147483647 < x.2.2) = true := decide_eq_true (by omega)
          clear h12
          go_wp2_with fail
          go_ret
          exact ⟨congrArg (fun b => Ending.returned (Value.bool b)) Hno.out.symm, rfl⟩
    · obtain rfl : k = l.length := by omega
      have hyes := allMay_yes (l := l) (fun x hx => by
        obtain ⟨j, hj, rfl⟩ := List.mem_iff_getElem.1 hx
        exact Hall.out j hj hj)
      have Hyes := Lib.hid hyes
      clear hyes
      go_wp2_with fail
      go_ret
      exact ⟨congrArg (fun b => Ending.returned (Value.bool b)) Hyes.out.symm, rfl⟩
end Go.Proofs.Ytafbjkbdfdeacaa
