/- graph.Of: the graph of edges, or the error. -/
import Derived.Test.YtlgnpogmgpgdaaaSortKeys
import Derived.Test.YtlgnpogmgpgdaaaBdGrW
namespace Go.Proofs.Ytlgnpogmgpgdaaa
set_option linter.unusedSimpArgs false
set_option linter.unusedVariables false
set_option maxRecDepth 100000
open Go.RowKit

/-- what a call that hands over a graph and a number leaves -/
def GraphRet (r : List RowD × Nat) (w : World) (e : Ending) (w' : World) : Prop :=
  ∃ p : Option Nat, e = .returned (.tuple #[gV p, .int .i64 (r.2 : Nat)]) ∧ (r.2 ≠ 0 → p = none) ∧ (r.2 = 0 → p ≠ none) ∧ GraphIs w' (fun k => w.heap.size ≤ k) p r.1 ∧ Below w.heap.size w w'
def gofI (l : List EdgeD) (w : World) (o i : Value) (wr : World) : Prop :=
  ∃ (k : Nat) (ao : Option Addr) (cap : Nat) (g : Option Nat) (fe : Nat → Prop), k ≤ l.length ∧ i = .int .i64 (k : Nat) ∧ o = .slice ao k cap ∧ zeroW (l.take k) = false ∧ OwnS (Rep.slice Rep.u8) fe wr ao cap g 112 ((keysM l).take k) ∧
    (∀ b, fe b → w.heap.size ≤ b ∧ b < wr.heap.size ∧ g ≠ some b) ∧ (∀ b, g = some b → w.heap.size ≤ b) ∧ Below w.heap.size w wr
theorem rowsOf_err {M : List (List UInt8)} (h : (rowsOf M).2 ≠ 0) : (rowsOf M).1 = [] := by
  unfold rowsOf at h ⊢
  split
  · rename_i h1; rw [if_pos h1] at h; simp at h
  · rfl
theorem ofM_err {l : List EdgeD} (h : (ofM l).2 ≠ 0) : (ofM l).1 = [] := by
  unfold ofM at h ⊢
  split
  · rfl
  · rename_i h1
    rw [if_neg h1, rrows_rows] at h
    rw [rrows_rows]
    exact rowsOf_err h
set_option maxRecDepth 100000 in
set_option maxHeartbeats 3200000 in
theorem gof_any (l : List EdgeD) (ao : Option Addr) (cap : Nat) (fp : Nat → Prop) (w : World) (hl : l.length ≤ 100000) (hok : ∀ x ∈ l, okE x) (hrd : RdS edgeRep fp w ao l) :
    Calls Try.prog 24 #[.slice ao l.length cap] w (GraphRet (ofM l) w) := by
  have hE := rowsElem
  have Hrd := Lib.hid hrd
  have Hok := Lib.hid hok
  clear hrd hok
  go_enter Try.func24, Try.ntmps24
  go_wp2_with fail
  go_loopw [4, 11] (fun o i wr => gofI l w o i wr) (fun _ i _ => l.length - (intOf i).toNat)
  case atStart => exact ⟨0, none, 0, none, fun _ => False, by omega, rfl, rfl, rfl, OwnS.nil _ _ _ _, fun b h => h.elim, (fun b h => by cases h), Below.refl _ _⟩
  case round =>
    obtain ⟨k, ao', cap', g, fe, hk, rfl, rfl, hz, hO, hfe, hg, hB⟩ := hrel
    rename World => wo
    by_cases hlt : k < l.length
    · obtain ⟨bb, off, rfl, hbb, hc0, hc1, hc2, hoke⟩ := (Hrd.out.ext hB).edgeM k hlt
      have hir : (k : Int) < (l.length : Int) := by omega
      have hst := keysM_take l k hlt
      have hzt := zeroW_take l k hlt
      rw [hz, Bool.false_or] at hzt
      have hat := @zeroW_at l k hlt
      have hkl : ((keysM l).take k).length = k := by simp [keysM]; omega
      generalize l[k] = x at hc0 hc1 hc2 hoke hst hzt hat
      obtain ⟨x0, x1, x2⟩ := x
      simp only at hc0 hc1 hc2 hst hzt hat
      have HB := Lib.hid hB
      by_cases h0 : x2 = 0
      · subst h0
        have hv : ofM l = ([], 9) := by unfold ofM; rw [if_pos (hat rfl)]
        have Hv := Lib.hid hv
        clear hst hzt hat hv hB hO hfe hg hz hoke
        go_wp2_with fail
        go_ret2
        show GraphRet (ofM l) w _ _
        rw [Hv.out]
        exact ⟨none, rfl, fun _ => rfl, fun h => absurd h (by decide), rfl, HB.out.alloc HB.out.size _⟩
      · have e1 : (x2 == 0) = false := beq_eq_false_iff_ne.2 h0
        have e1' : ((x2 : Int) == 0) = false := beq_eq_false_iff_ne.2 (by omega)
        rw [e1] at hzt
        have Hzt := Lib.hid hzt
        have HKy := Lib.hid (mkey_any x0 x1 x2 hoke.1 hoke.2.1 hoke.2.2)
        obtain ⟨css, hown0, hall⟩ := hO
        rw [hkl] at hown0
        have hown : Own wo ao' cap' g 112 1 k css.flatten := hown0
        have Hown := Lib.hid hown
        have Hall := Lib.hid hall
        have Hst := Lib.hid hst
        have Hkl := Lib.hid hkl
        have Hfe := Lib.hid hfe
        have Hg := Lib.hid hg
        have hsB := hB.size
        have hglt := hown.lt
        have Hglt := Lib.hid hglt
        clear hown0 hown hall hst hkl hfe hg hB hoke hglt hzt hat h0 hz
        obtain ⟨w1, hw1⟩ : ∃ w1, wo.alloc (.cells #[.int .u32 (x0 : Nat), .int .u32 (x1 : Nat), .int .u32 (x2 : Nat)] 56) = w1 := ⟨_, rfl⟩
        have E1 := Lib.hid (show Below wo.heap.size wo w1 by rw [← hw1]; exact ext_alloc _ _)
        have d0 : w1.cell? ⟨wo.heap.size, 0, none⟩ = some (.int .u32 (x0 : Nat)) := by rw [← hw1]; simp
        have d1 : w1.cell? ⟨wo.heap.size, 1, none⟩ = some (.int .u32 (x1 : Nat)) := by rw [← hw1]; simp
        have d2 : w1.cell? ⟨wo.heap.size, 2, none⟩ = some (.int .u32 (x2 : Nat)) := by rw [← hw1]; simp
        go_upto_region 5 with fail
        clear hw1
        go_wp2_with (first
          | (go_at_call 64; (with_reducible refine (HKy.out _).mono ?_); rintro e w2 ⟨a2, c2, g2, rfl, ho2, hg2, hB2⟩; have hs2 := hB2.size; have Ho2 := Lib.hid ho2; have Hg2 := Lib.hid (fun b hb => Nat.le_trans E1.out.size (hg2 b hb)); have HB2 := Lib.hid (E1.out.trans (hB2.mono E1.out.size)); clear ho2 hg2 hB2)
          | (at_builtin; refine wpList_app rfl (.tmp 18) (.tmp 21) 108 108 rfl hE ((Hown.out.ext HB2.out).alloc _) rfl rfl (srcOne Try.underlying108 _ _ _ _ rfl) (by simp [maxLen]; omega) (by omega) ?_; intro ao3 cap3 g3 W3 ho3 hg3 hon3; have Ho3 := Lib.hid ho3; have Hg3 := Lib.hid hg3; have Hon3 := Lib.hid hon3; clear ho3 hg3 hon3))
        have hon : Only (fun j => g = some j) w2 W3 := ((Only.refl (fun j => g = some j) w2).alloc _).trans Hon3.out (fun _ _ h => h)
        have hs3 := hon.size
        have hs2' := HB2.out.size
        have hg3' : ∀ b, g3 = some b → g = some b ∨ w2.heap.size ≤ b := fun b h => by
          rcases Hg3.out with e | e <;> rw [e] at h
          · exact .inl h
          · have h := Option.some.inj h; right; simp at h; omega
        have hg2l := Ho2.out.lt
        go_roundw
        case rel =>
          refine ⟨k + 1, ao3, cap3, g3, fun b => fe b ∨ g2 = some b, by omega, by go_num, rfl, Hzt.out, ?_, fun b hb => ?_, fun b hb => ?_, ?_⟩
          · rw [Hst.out]
            refine OwnS.snoc (w := wo) (forall2_imp (fun x cs h => (Rep.slice Rep.u8).mono h (fun b hb _ => .inl hb)) Hall.out) (cs := [.slice a2 12 c2]) ⟨a2, c2, rfl, Ho2.out.capLe.1, Ho2.out.capLe.2, ?_⟩ (by rw [Hkl.out]; exact Ho3.out) (fun b hb hl => ?_) (by omega)
            · refine ((rdS_u8 (l := key3 x0 x1 x2) Ho2.out).only hon (fun b hb _ e => ?_)).mono (fun b hb _ => .inr hb)
              have := Hg2.out b hb; have := Hglt.out b e; omega
            · rcases hb with hb | hb
              · exact (hon.same b (by omega) (Hfe.out b hb).2.2).trans (HB2.out.block b hl)
              · have := Hg2.out b hb; omega
          · rcases hb with hb | hb
            · refine ⟨(Hfe.out b hb).1, by have := (Hfe.out b hb).2.1; omega, fun e => ?_⟩
              rcases hg3' b e with h | h
              · exact (Hfe.out b hb).2.2 h
              · have := (Hfe.out b hb).2.1; omega
            · have h1 := Hg2.out b hb
              have h2 := hg2l b hb
              refine ⟨by omega, by omega, fun e => ?_⟩
              rcases hg3' b e with h | h
              · have := Hglt.out b h; omega
              · omega
          · rcases hg3' b hb with h | h
            · exact Hg.out b h
            · omega
          · exact (HB.out.trans (HB2.out.mono hsB)).trans (hon.below (by omega) (fun j hj e => by have := Hg.out j e; omega))
        case measure => simp [intOf]; omega
    · obtain rfl : k = l.length := by omega
      have hlen : (keysM l).length = l.length := by simp [keysM]
      have e : (keysM l).take l.length = keysM l := by rw [← hlen, List.take_length]
      rw [e] at hO
      rw [List.take_length] at hz
      have HS := Lib.hid (keysort_any (keysM l) ao' cap' g fe wo (by omega) hO (fun b hb => (hfe b hb).2.2))
      rw [hlen] at HS
      have HR := Lib.hid (fun (M : List (List UInt8)) (a : Option Addr) (c : Nat) (W : World) (hM : M.length ≤ 1000000) (h : RdS (Rep.slice Rep.u8) (fun k => k < W.heap.size) W a M) => rows_any M a c W (by omega) h)
      have HP := Lib.hid (fun (M : List (List UInt8)) (hp : M.Perm (keysM l)) (hM : M.Pairwise (fun a b => ¬ b < a)) => (show rowsOf M = ofM l ∧ M.length = l.length from ⟨by
        rw [keys_sortR Hok.out hp hM]; unfold ofM; rw [if_neg (by rw [hz]; simp), rrows_rows], by rw [hp.length_eq, hlen]⟩))
      have HE := Lib.hid (@ofM_err l)
      have Hg := Lib.hid hg
      have HB := Lib.hid hB
      clear hO hlen e hz hfe hg hB
      generalize ofM l = r at *
      obtain ⟨R, er⟩ := r
      simp only at HE
      go_upto_region 10 with (go_at_call 65; (with_reducible refine HS.out.mono ?_); rintro e w2 ⟨rfl, M, h1, h2, h3, h4⟩; have H1 := Lib.hid h1; have H2 := Lib.hid h2; have H3 := Lib.hid h3; have H4 := Lib.hid h4; clear h1 h2 h3 h4)
      obtain ⟨hr, hML⟩ := HP.out M H1.out H2.out
      have B2 := Lib.hid (HB.out.trans (H4.out.below HB.out.size (fun j hj e => by have := Hg.out j e; omega)))
      have HRM := Lib.hid (HR.out M ao' cap' w2 (by omega) (H3.out.mono (fun b _ hl => hl)))
      rw [hr, hML] at HRM
      clear hr HP HS HR hML
      go_upto_region 11 with (go_at_call 67; (with_reducible refine HRM.out.mono ?_); rintro e w3 ⟨ra, rc, rfl, h5, h6, h7, h8⟩; have H5 := Lib.hid (And.intro h5 h6); have H7 := Lib.hid (h7.mono (fun k hk _ => Nat.le_trans B2.out.size hk)); have B3 := Lib.hid (B2.out.trans (h8.mono B2.out.size)); clear h5 h6 h7 h8)
      by_cases he : er = 0
      · subst he
        clear HE
        go_wp2_with fail
        go_ret2
        refine ⟨some w3.heap.size, rfl, fun h => absurd rfl h, (fun _ h => by cases h), ⟨B3.out.size, ra, rc, heap_alloc_new _ _, H5.out.1, H5.out.2, H7.out.ext (ext_alloc _ _)⟩, B3.out.alloc B3.out.size _⟩
      · have e1 : ((er : Int) != 0) = true := bne_iff_ne.2 (by omega)
        have e1' : (er != 0) = true := bne_iff_ne.2 he
        have hR := HE.out he
        have He := Lib.hid he
        clear he HE
        go_wp2_with fail
        go_ret2
        exact ⟨none, rfl, fun _ => rfl, fun h => absurd h He.out, hR, B3.out⟩
end Go.Proofs.Ytlgnpogmgpgdaaa
