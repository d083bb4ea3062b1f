/- heap.Push at *kept. -/
import Derived.Handy
import Derived.Test.YtggcmnjllkncaaaBestUp
namespace Go.Proofs.Ytggcmnjllkncaaa
set_option linter.unusedSimpArgs false
set_option linter.unusedVariables false
set_option maxRecDepth 100000
open Go.RowKit

theorem OwnS.block {α : Type} {R : Rep α} {fp : Nat → Prop} {w : World} {ao : Option Addr} {cap : Nat} {g : Option Nat} {e : TypeId} {l : List α} (h : OwnS R fp w ao cap g e l) (hl : 0 < l.length) : ∃ k, g = some k ∧ ao = some ⟨k, 0, none⟩ := by
  obtain ⟨css, ho, _⟩ := h
  rcases ho.2 with ⟨_, _, h0, _⟩ | ⟨b, cur, hg, ha, _⟩
  · omega
  · exact ⟨b, hg, ha⟩
/-- the kept ones, few or none: a slice and the block behind it -/
def KeptO (w : World) (t : Nat) (mv : Value) (g : Option Nat) (A : List VisD) : Prop := ∃ ao cap, TopAt w t mv ao A.length cap ∧ OwnS visRep (fun _ => False) w ao cap g 31 A ∧ g ≠ some t
def HPushRet (A : List VisD) (x : VisD) (t : Nat) (mv : Value) (g : Option Nat) (w : World) (w' : World) : Prop :=
  ∃ A' g', A'.Perm (A ++ [x]) ∧ hpV A' ∧ KeptO w' t mv g' A' ∧ (g' = g ∨ ∃ k, g' = some k ∧ w.heap.size ≤ k) ∧ Only (fun k => k = t ∨ g = some k) w w'
set_option maxRecDepth 100000 in
set_option maxHeartbeats 3200000 in
theorem hpush_any (A : List VisD) (x : VisD) (t : Nat) (mv : Value) (g : Option Nat) (w : World) (hl : A.length < 1000000) (hx : okV x) (hh : hpV A) (hK : KeptO w t mv g A) :
    Calls Try.prog 18 #[.iface 44 (.pointer (some ⟨t, 1, none⟩)), .iface 31 (.agg (visCs x).toArray)] w fun e w' => e = .returned (.tuple #[]) ∧ HPushRet A x t mv g w w' := by
  obtain ⟨ao, cap, hT, hO, hgt⟩ := hK
  have htl : t < w.heap.size := (Array.getElem?_eq_some_iff.1 hT).1
  have hm := meth_push w t
  have hpu := kpush_any A x t mv ao cap g w (by omega) hx hT hgt hO
  obtain ⟨n, hn⟩ : ∃ n, A.length = n := ⟨_, rfl⟩
  have hnb : n ≤ 1000000 := by omega
  have HN := Lib.hid hn
  have hz : ((n + 1 : Nat) : Int) - 1 = (n : Nat) := by omega
  have HL := Lib.hid hl
  have HH := Lib.hid hh
  have HX := Lib.hid htl
  have HG := Lib.hid hgt
  clear hl hh hT hO hx htl hgt hn
  generalize (visCs x).toArray = xc at hpu ⊢
  go_enter Try.func18, Try.ntmps18
  go_wp2_with (first
    | (refine hpu.mono ?_; rintro e w2 ⟨rfl, ao2, cap2, g2, hT2, hO2, hg2, hon2⟩; clear hpu; obtain ⟨k, rfl, rfl⟩ := hO2.block (by simp); have hkt : k ≠ t := fun e => (by rcases hg2 with h | ⟨k', h, h2⟩; exact HG.out (by rw [← h, e]); cases h; have := HX.out; omega); have hK2 : KeptAt w2 t mv k cap2 (A ++ [x]) := ⟨by rw [List.length_append]; exact hT2, hO2, hkt⟩; have HK2 := Lib.hid hK2; have Hg2 := Lib.hid hg2; have Hon2 := Lib.hid hon2; clear hT2 hO2 hg2 hon2 hkt hK2; have hml := meth_len w2 t k (n + 1) cap2 (by rw [← HN.out, HK2.out.cell, List.length_append]; rfl); have hlen := klen_any (some ⟨k, 0, none⟩) (n + 1) cap2 w2; have hup := hup_any (A ++ [x]) n t mv k cap2 w2 (by have := HL.out; simp; omega) (by rw [← HN.out]; simp) (by rw [← HN.out]; exact upV_push HH.out x) HK2.out)
    | (refine hlen.mono ?_; rintro e w3 ⟨rfl, rfl⟩; clear hlen)
    | (refine hup.mono ?_; rintro e w4 ⟨rfl, hR⟩; clear hup; have HR := Lib.hid hR; clear hR))
  go_end0
  obtain ⟨A2, hp2, hh2, hk2, ho2⟩ := HR.out
  have hO2 := HK2.out.2.1
  refine ⟨rfl, A2, some k, hp2, hh2, ⟨_, cap2, hk2.1, hk2.2.1, fun e => hk2.2.2 (Option.some.inj e)⟩, Hg2.out, Hon2.out.trans ho2 (fun i hi e => ?_)⟩
  subst e
  rcases Hg2.out with h | ⟨k', h, h2⟩
  · exact .inr h.symm
  · cases h; omega
end Go.Proofs.Ytggcmnjllkncaaa
