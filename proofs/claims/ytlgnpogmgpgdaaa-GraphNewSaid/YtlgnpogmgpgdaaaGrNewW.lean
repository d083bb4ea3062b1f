/- GraphNew: the walk. -/
import Derived.Test.YtlgnpogmgpgdaaaGrSoft
namespace Go.Proofs.Ytlgnpogmgpgdaaa
set_option linter.unusedSimpArgs false
set_option linter.unusedVariables false
set_option maxRecDepth 100000
open Go.RowKit

def n1I (l : List RowD) (w : World) (v5 v6 : Value) (wr : World) : Prop :=
  ∃ (k : Nat) (ao : Option Addr) (cap gb : Nat) (fe : Nat → Prop), k ≤ l.length ∧ v5 = .slice ao k cap ∧ v6 = .int .i64 (k : Nat) ∧ OwnS rowRep fe wr ao cap (some gb) 80 (l.take k) ∧
    (∀ b, fe b → w.heap.size ≤ b ∧ b < wr.heap.size ∧ b ≠ gb ∧ softArcs wr b) ∧ w.heap.size ≤ gb ∧ Below w.heap.size w wr
theorem newM15_all {R : List RowD} (h : newM15 R = 0) : ∀ n i, i < n → i < R.length → newErr R i = 0
  | 0, _, h1, _ => by omega
  | n + 1, i, h1, h2 => by
    by_cases e : i < n
    · exact newM15_all h n i e h2
    · obtain rfl : i = n := by omega
      apply Decidable.byContradiction
      intro hne
      have := newM15_at h2 (fun j hj => newM15_all h i j hj (by omega)) hne
      omega
theorem rows_adj {R : List RowD} (h : ∀ i (hi : i < R.length) (h0 : 0 < i), (R[i - 1]'(by omega)).1 < R[i].1) : R.Pairwise (fun a b => a.1 < b.1) := by
  refine List.pairwise_iff_getElem.2 fun i j hi hj hij => ?_
  induction j with
  | zero => omega
  | succ j ih =>
    have h1 := h (j + 1) hj (by omega)
    simp only [Nat.add_sub_cancel] at h1
    by_cases e : i < j
    · have := ih (by omega) e; omega
    · obtain rfl : i = j := by omega
      exact h1
theorem rows_bounds {fp : Nat → Prop} {w : World} {ao : Option Addr} {l : List RowD} (h : RdS rowRep fp w ao l) : ∀ r ∈ l, r.1 < 4294967296 ∧ ∀ a ∈ r.2, okA a := fun r hr => by
  obtain ⟨k, hk, rfl⟩ := List.mem_iff_getElem.1 hr
  obtain ⟨_, _, _, _, _, _, _, _, h1, _, _, h2⟩ := h.row k hk
  refine ⟨h1, fun a ha => ?_⟩
  obtain ⟨j, hj, rfl⟩ := List.mem_iff_getElem.1 ha
  obtain ⟨_, _, _, _, _, _, h3⟩ := h2.arc j hj
  exact h3
theorem new_fit {l : List RowD} (hz : newM15 l = 0) (hl : l.length ≤ 50) (ha : ∀ r ∈ l, r.2.length ≤ 50) (hb : ∀ r ∈ l, r.1 < 4294967296 ∧ ∀ a ∈ r.2, okA a) : FitG l := by
  have hall := fun i (hi : i < l.length) => newErr_ok hi (newM15_all hz l.length i hi hi)
  have hm : ∀ r ∈ l, r.2 ≠ [] ∧ (∀ a ∈ r.2, 0 < a.2) ∧ r.2.Pairwise (fun a b => a.1 < b.1) ∧ sumA r.2 ≤ 2147483647 := fun r hr => by
    obtain ⟨k, hk, rfl⟩ := List.mem_iff_getElem.1 hr
    have h1 := hall k hk
    have h2 := of_decide_eq_true h1.2.1
    exact ⟨h1.1, h2.1, h2.2.1, h2.2.2⟩
  refine FitG.of ⟨⟨rows_adj (fun i hi h0 => (hall i hi).2.2 h0), fun r hr => ⟨(hm r hr).1, (hm r hr).2.2.1, (hm r hr).2.1⟩⟩, fun r hr => ⟨(hb r hr).1, (hb r hr).2, (hm r hr).2.2.2⟩⟩ (by omega) (fun r hr => Nat.le_trans (ha r hr) (by omega))
/-- rows' loops: which row, and which arc -/
def n2I (L : List Nat) (b : Nat) (fe : Nat → Prop) (wN : World) (v9 v10 : Value) (wr : World) : Prop := ∃ i : Nat, i ≤ L.length ∧ v9 = .int .i64 (i : Nat) ∧ SoftR wr b fe L ∧ Only (fun q => q = b ∨ fe q) wN wr
def n2J (L : List Nat) (b : Nat) (fe : Nat → Prop) (wN : World) (n : Nat) (v10 : Value) (wr : World) : Prop := ∃ k : Nat, k ≤ n ∧ v10 = .int .i64 (k : Nat) ∧ SoftR wr b fe L ∧ Only (fun q => q = b ∨ fe q) wN wr
def n3I (n : Nat) (a : Option Addr) (c : Nat) (g : Option Nat) (wN : World) (v : Value) (wr : World) : Prop := ∃ (k : Nat) (A : List ArcD), k ≤ n ∧ A.length = n ∧ v = .int .i64 (k : Nat) ∧ OwnS arcRep (fun _ => False) wr a c g 42 A ∧ Only (fun q => g = some q) wN wr
def n4I (L : List Nat) (b : Nat) (fe : Nat → Prop) (N : Nat) (wN : World) (v : Value) (wr : World) : Prop := ∃ i : Nat, i ≤ L.length ∧ v = .int .i64 (i : Nat) ∧ (0 < L.length → SoftR wr b fe L) ∧ Only (fun q => N ≤ q) wN wr
def n4J (L : List Nat) (b : Nat) (fe : Nat → Prop) (N : Nat) (wN : World) (n : Nat) (v : Value) (wr : World) : Prop := ∃ k : Nat, k ≤ n ∧ v = .int .i64 (k : Nat) ∧ SoftR wr b fe L ∧ Only (fun q => N ≤ q) wN wr
theorem u32_nat (x : Int) : ∃ y : Nat, IntKind.u32.wrap x = (y : Int) ∧ y < 4294967296 := by
  refine ⟨(x % 4294967296).toNat, ?_, ?_⟩
  · simp [IntKind.wrap, IntKind.bits, IntKind.signed]; omega
  · omega
set_option maxRecDepth 100000 in
set_option maxHeartbeats 12800000 in
theorem grnew_walk (l : List RowD) (ao : Option Addr) (ca : Nat) (v : Nat) (fp : Nat → Prop) (w : World) (hcap : l.length ≤ ca) (hcm : ca ≤ maxLen) (hrd : RdS rowRep fp w ao l) :
    Calls Try.prog 11 #[.slice ao l.length ca, .int .u32 (v : Nat)] w (RetB (.bool true) w) := by
  have HA := Lib.hid awake15_any
  have hE := rowElem
  have hEA := arcElem
  have HFw := Lib.hid (few15_any l ao ca fp w hcap hcm hrd)
  cases hfew : fewM l with
  | false =>
    rw [hfew] at HFw
    clear hrd hfew
    go_enter Try.func11, Try.ntmps11
    go_wp2_with (first
      | (go_at_call 39; (with_reducible refine HFw.out.mono ?_); rintro e w1 ⟨rfl, hx⟩; have B1 := Lib.hid hx; clear hx)
      | (go_at_call 23; (with_reducible refine (HA.out _).mono ?_); rintro e w2 ⟨rfl, hx⟩; have B2 := Lib.hid (B1.out.trans (hx.mono B1.out.size)); clear hx))
    go_ret
    exact ⟨rfl, B2.out⟩
  | true =>
  rw [hfew] at HFw
  obtain ⟨hl, hal⟩ := fewM_yes hfew
  have Hrd := Lib.hid hrd
  have Hal := Lib.hid hal
  clear hrd hfew hal
  go_enter Try.func11, Try.ntmps11
  go_upto_region 4 with (go_at_call 39; (with_reducible refine HFw.out.mono ?_); rintro e w1 ⟨rfl, hx⟩; have B1 := Lib.hid hx; clear hx)
  go_wp2_with fail
  have HST : Hid (n1I l w (.slice (some ⟨w1.heap.size, 0, none⟩) 0 0) (.int .i64 0) (w1.alloc (.cells #[] 80))) := ⟨0, _, 0, w1.heap.size, fun _ => False, Nat.zero_le _, rfl, rfl, ⟨[], Own.emptyAt w1 80 2 w1.heap.size rfl, .nil⟩, fun b h => h.elim, B1.out.size, B1.out.alloc B1.out.size _⟩
  go_loopw [5, 6] (fun v5 v6 wr => n1I l w v5 v6 wr) (fun _ v6 _ => l.length - (intOf v6).toNat)
  case atStart => exact HST.out
  case round =>
    obtain ⟨k, ao1, cap1, gb, fe, hk, rfl, rfl, hO, hfe, hgb, hB⟩ := hrel
    rename World => wo
    by_cases hlt : k < l.length
    · obtain ⟨bb, off, ra, rc, rfl, hbb, hc0', hc1', hr0, h2, h3, hr⟩ := Hrd.out.row k hlt
      have m0 := ((bcell hB).1 _ _ hbb).trans hc0'
      have m1 := ((bcell hB).1 _ _ hbb).trans hc1'
      have hir : (k : Int) < (l.length : Int) := by omega
      have hrl := Hal.out l[k] (List.getElem_mem hlt)
      have Hst := Lib.hid (show l.take (k + 1) = l.take k ++ [(l[k].1, l[k].2)] from List.take_succ_eq_append_getElem hlt)
      obtain ⟨r, hr'⟩ : ∃ r, l[k] = r := ⟨_, rfl⟩
      rw [hr'] at m0 m1 hc0' hc1' hr0 hr hrl Hst
      obtain ⟨r0, rl⟩ := r
      simp only at m0 m1 hc0' hc1' hr0 hr hrl Hst
      obtain ⟨cssA, hallA, hsrcA⟩ := RdS.srcAll oneArc (P := Try.prog) (tx := 31) Try.underlying31 hr
      have hkl : (l.take k).length = k := by simp; omega
      obtain ⟨css, hown0, hall⟩ := hO
      rw [hkl] at hown0
      have Hown := Lib.hid (show Own wo ao1 cap1 (some gb) 80 2 k css.flatten from hown0)
      have Hall := Lib.hid hall
      have HallA := Lib.hid (fun W => arcs_nofp hallA W)
      have HsrcA := Lib.hid hsrcA
      have Hfe := Lib.hid hfe
      have HB := Lib.hid hB
      have HD := Lib.hid (And.intro hc0' hc1')
      have hgl := hown0.lt gb rfl
      have E1 := Lib.hid (fun o : Obj => (show Below wo.heap.size wo (wo.drew.alloc o) from (ext_drew wo).alloc (by simp) o))
      have HE := Lib.hid (fun W (h : Below wo.heap.size wo W) => (show W.cell? ⟨bb, off + k * 2, none⟩ = some (.int .u32 (r0 : Nat)) ∧ W.cell? ⟨bb, off + k * 2 + 1, none⟩ = some (.slice ra rl.length rc) from ⟨((bcell (HB.out.trans (h.mono HB.out.size))).1 _ _ hbb).trans HD.out.1, ((bcell (HB.out.trans (h.mono HB.out.size))).1 _ _ hbb).trans HD.out.2⟩))
      clear hr' hr hallA hsrcA hown0 hall hfe hB hc0' hc1' HST h2 h3
      go_upto_region 7 with fail
      go_region_held3 (fun w' => w'.cell? ⟨bb, off + k * 2, none⟩ = some (.int .u32 (r0 : Nat)) ∧ w'.cell? ⟨bb, off + k * 2 + 1, none⟩ = some (.slice ra rl.length rc))
        (first | exact ⟨m0, m1⟩ | exact HE.out _ (E1.out _) | exact HE.out _ E4.out | exact HE.out _ (E5.out _) | exact HP.out)
        (first
          | ((refine step_app (g := some wo.heap.size) (xs := []) (m := rl.length) (news := cssA.flatten) rfl (.tmp 34) (.tmp 39) 31 31 rfl hEA ?_ rfl rfl ?_ ?_ ?_ ?_; (exact Own.emptyAt wo.drew 42 2 wo.heap.size rfl); (exact HsrcA.out _ (HB.out.trans ((E1.out _).mono HB.out.size)) _); (focus (simp [maxLen]; omega)); omega); intro a4 c4 g4 w4 ho4 hg4 hon4; obtain ⟨hG4, hx4⟩ := app_blocksM (w := wo) (W := wo.drew.alloc (.cells #[] 42)) (fun k h => by cases h; exact Nat.le_refl _) (E1.out _) hg4 hon4; have E4 := Lib.hid hx4; have G4 := Lib.hid hG4; have Y4 := Lib.hid (show OwnS arcRep (fun _ => False) w4 a4 c4 g4 42 rl from ⟨cssA, (by simpa using ho4 : Own w4 a4 c4 g4 42 2 rl.length cssA.flatten), HallA.out w4⟩); have E5 := Lib.hid (fun o : Obj => (show Below wo.heap.size wo (w4.alloc o) from hx4.alloc hx4.size o)); clear ho4 hg4 hon4 hG4 hx4; (try rw [Nat.zero_add]))
          | ((refine step_app (g := some gb) (xs := css.flatten) (m := 1) (news := [.int .u32 (r0 : Nat), .slice a4 rl.length c4]) rfl (.tmp 28) (.tmp 42) 47 47 rfl hE ?_ rfl rfl ?_ ?_ ?_ ?_; (exact Hown.out.ext (E5.out _)); (refine srcManyE Try.underlying47 _ [_, _] _ _ 2 _ ?_ rfl ?_; (first | rfl | omega | (focus (simp; done))); (focus (simp [Value.oneCell']; done))); (focus (simp [maxLen]; omega)); omega); intro a6 c6 g6 w6 ho6 hg6 hon6; have Ho6 := Lib.hid ho6; have Hg6 := Lib.hid hg6; have On6 := Lib.hid (((Only.refl (fun j => some gb = some j) w4).alloc _).trans hon6 (fun _ _ h => h)); have HP := Lib.hid (show w6.cell? ⟨bb, off + k * 2, none⟩ = some (.int .u32 (r0 : Nat)) ∧ w6.cell? ⟨bb, off + k * 2 + 1, none⟩ = some (.slice ra rl.length rc) from ⟨(On6.out.cell (by have h1 := E4.out.size; have h2 := HB.out.size; omega) (fun e => by have e := Option.some.inj e; omega) _).trans (HE.out w4 E4.out).1, (On6.out.cell (by have h1 := E4.out.size; have h2 := HB.out.size; omega) (fun e => by have e := Option.some.inj e; omega) _).trans (HE.out w4 E4.out).2⟩); clear ho6 hg6 hon6)
          | fail "no arm")
      have hz4 := E4.out.size
      have hz6 := On6.out.size
      obtain ⟨g7, hg7, hg7'⟩ : ∃ g7, g6 = some g7 ∧ (g7 = gb ∨ w4.heap.size ≤ g7) := by
        rcases Hg6.out with h | h
        · exact ⟨gb, h, .inl rfl⟩
        · exact ⟨_, h, .inr (by simp)⟩
      subst hg7
      have hsame : ∀ b, b < w4.heap.size → b ≠ gb → w6.heap[b]? = w4.heap[b]? := fun b h1 h2 => On6.out.same b h1 (fun e => h2 (Option.some.inj e).symm)
      have hrow : OwnS rowRep (fun b => fe b ∨ g4 = some b) w6 a6 c6 (some g7) 80 (l.take k ++ [(r0, rl)]) := by
        refine OwnS.snoc (w := wo) (forall2_imp (fun x cs h => rowRep.mono h (fun b hb _ => .inl hb)) Hall.out) (cs := [.int .u32 (r0 : Nat), .slice a4 rl.length c4]) (rowRep_ok (p := (r0, rl)) Y4.out.capLe.1 Y4.out.capLe.2 hr0 ?_) (by rw [hkl]; exact Ho6.out) (fun b hb hl => ?_) (by omega)
        · refine (Y4.out.rd.only On6.out (fun b hb _ e => ?_)).mono (fun b hb _ => .inr (hb.elim (fun h => h.elim) id))
          rcases hb with h | h
          · exact h
          · have h5 := G4.out b h; have e := Option.some.inj e; omega
        · rcases hb with h | h
          · exact (hsame b (by omega) (Hfe.out b h).2.2.1).trans (E4.out.block b hl)
          · have h5 := G4.out b h; omega
      have hfe7 : ∀ b, (fe b ∨ g4 = some b) → w.heap.size ≤ b ∧ b < w6.heap.size ∧ b ≠ g7 ∧ softArcs w6 b := fun b hb => by
        have hwo := HB.out.size
        rcases hb with h | h
        · obtain ⟨h1, h2, h3, cur, h4⟩ := Hfe.out b h
          exact ⟨h1, by omega, by rcases hg7' with e | e <;> omega, cur, (hsame b (by omega) h3).trans ((E4.out.block b h2).trans h4)⟩
        · have h5 := G4.out b h
          have h6 := Y4.out.lt b h
          obtain ⟨cur, h7⟩ := Y4.out.soft b h
          refine ⟨by omega, by omega, ?_, cur, (hsame b h6 (by omega)).trans h7⟩
          rcases hg7' with e | e <;> omega
      have hB6 : Below w.heap.size w w6 := (HB.out.trans (E4.out.mono HB.out.size)).trans (On6.out.below (by have := HB.out.size; omega) (fun j hj e => by have e := Option.some.inj e; omega))
      have Hrow := Lib.hid hrow
      have Hf7 := Lib.hid hfe7
      have HB6 := Lib.hid hB6
      clear hrow hfe7 hB6 m0 m1 hsame
      go_wp2_with fail
      go_roundw
      case rel => exact ⟨k + 1, a6, c6, g7, fun b => fe b ∨ g4 = some b, by omega, rfl, by go_num, by rw [Hst.out]; exact Hrow.out, Hf7.out, by rcases hg7' with e | e; omega; have := HB.out.size; omega, HB6.out⟩
      case measure => simp [intOf]; omega
    · obtain rfl : k = l.length := by omega
      rw [List.take_length] at hO
      have hao : ao1 = some ⟨gb, 0, none⟩ ∧ gb < wo.heap.size := by
        obtain ⟨css, ho, _⟩ := hO
        rcases ho.addr with ⟨_, h, _⟩ | ⟨b, h1, h2, h3⟩
        · cases h
        · cases h1; exact ⟨h2, h3⟩
      obtain ⟨rfl, hgl⟩ := hao
      have hSo := SoftR.of hO (fun k hk => ⟨(hfe k hk).2.2.1, (hfe k hk).2.2.2⟩)
      have HNw := Lib.hid (gnew_any l (some ⟨gb, 0, none⟩) cap1 _ wo (by omega) (fun r hr => Nat.le_trans (Hal.out r hr) (by omega)) hO.rd)
      have HRN := Lib.hid (fun W (h : Below w.heap.size w W) => rnew15_any l ao ca fp W (by omega) (fun r hr => Nat.le_trans (Hal.out r hr) (by omega)) (Hrd.out.ext h))
      have HSo := Lib.hid hSo
      have Hfe := Lib.hid (fun b (h : fe b) => And.intro (hfe b h).1 (hfe b h).2.1)
      have HB := Lib.hid hB
      clear hO hSo hfe hB HST
      by_cases hz : newM15 l = 0
      · have hF := new_fit hz hl Hal.out (rows_bounds Hrd.out)
        have hnr : newR l = (l, 0) := by unfold newR; rw [if_pos hz]
        rw [hnr] at HNw
        have HRN := Lib.hid (fun W (h : Below w.heap.size w W) => (show Calls Try.prog 40 #[.slice ao l.length ca] W (RetB (.int .i64 0) W) from by have h9 := HRN.out W h; rw [hz] at h9; exact h9))
        obtain ⟨L, hL⟩ : ∃ L, l.map (fun r => r.2.length) = L := ⟨_, rfl⟩
        have hLl : L.length = l.length := by rw [← hL, List.length_map]
        have HL5 := Lib.hid (fun i (h : i < L.length) => (show L[i] ≤ 50 by subst hL; simp only [List.getElem_map]; exact Hal.out _ (List.getElem_mem _)))
        rw [hL] at HSo
        have HLm := Lib.hid hL
        clear hnr hL hz
        go_wp2_with (first
          | (go_at_call 38; (with_reducible refine HNw.out.mono ?_); rintro e w2 ⟨p, rfl, _, _, h3, hx⟩; have G2 := Lib.hid (h3.mono (fp' := fun b => wo.heap.size ≤ b ∧ b < w2.heap.size) (fun b h hl => ⟨h, hl⟩)); have S2 := Lib.hid (HSo.out.keep hx); have E2 := Lib.hid hx; have B2 := Lib.hid (HB.out.trans (hx.mono HB.out.size)); clear h3 hx)
          | (go_at_call 40; (with_reducible refine (HRN.out _ B2.out).mono ?_); rintro e w3 ⟨rfl, hx⟩; have G3 := Lib.hid (G2.out.ext hx); have S3 := Lib.hid (S2.out.keep hx); have Z3 := Lib.hid hx.size; have B3 := Lib.hid (B2.out.trans (hx.mono B2.out.size)); clear hx))
        go_loopw [9, 10] (fun v9 v10 wr => n2I L gb fe w3 v9 v10 wr) (fun v9 _ _ => L.length - (intOf v9).toNat)
        case atStart => exact ⟨0, Nat.zero_le _, rfl, S3.out, Only.refl _ _⟩
        case round =>
          obtain ⟨i, hi, rfl, hS, hO3⟩ := hrel
          rename World => wa
          have O3 := Lib.hid hO3
          clear hO3
          by_cases hlt : i < L.length
          · obtain ⟨x, a, c, hx, hc0, hc1, hf0, _⟩ := hS.cell hlt
            have hir : (i : Int) < (l.length : Int) := by omega
            have HS := Lib.hid hS
            clear hS
            go_upto_region 15 with fail
            rw [show ((x : Int) + 5) % 4294967296 = (((x + 5) % 4294967296 : Nat) : Int) by omega]
            obtain ⟨wb, hwb⟩ : ∃ wb, wa.setCell ⟨gb, i * 2, none⟩ (.int .u32 (((x + 5) % 4294967296 : Nat) : Int)) = wb := ⟨_, rfl⟩
            have Sb := Lib.hid (show SoftR wb gb fe L by rw [← hwb]; exact HS.out.from hlt (by omega))
            have Ob := Lib.hid (show Only (fun q => q = gb ∨ fe q) w3 wb by rw [← hwb]; exact O3.out.setCell (fun _ => .inl rfl) _)
            rw [hwb]
            clear hwb hc0 hc1 hf0 HS O3 hx
            obtain ⟨n, hn⟩ : ∃ n, L[i] = n := ⟨_, rfl⟩
            have Hn := Lib.hid hn
            have hn5 : n ≤ 50 := hn ▸ HL5.out i hlt
            clear hn
            go_wp2_with fail
            go_loopw [10] (fun v10 wr => n2J L gb fe w3 n v10 wr) (fun v10 _ => n - (intOf v10).toNat)
            case atStart => exact ⟨0, Nat.zero_le _, rfl, Sb.out, Ob.out⟩
            case round =>
              obtain ⟨k, hk, rfl, hS, hO4⟩ := hrel
              rename World => wc
              obtain ⟨x2, a2, c2, _, _, hc1, _, hpos⟩ := hS.cell hlt
              rw [Hn.out] at hc1 hpos
              have HS := Lib.hid hS
              have O4 := Lib.hid hO4
              clear hS hO4
              by_cases hkt : k < n
              · obtain ⟨bi, oi, ci, rfl, hfb, hci, hsz⟩ := hpos (by omega)
                have hkr : (k : Int) < (n : Int) := by omega
                have Hth := Lib.hid (arcs_there hci hsz hkt)
                have Hci := Lib.hid hci
                clear hpos hci hsz
                go_wp2_with (refine wpList_store_mid rfl _ _ _ rfl bi (oi + k * 2) #[.int .u32 0, .int .u32 0] rfl rfl Hth.out (by kernel_rfl) (by simp [Value.oneCell']) ?_)
                obtain ⟨wd, hwd⟩ : ∃ wd, wc.setCells bi (oi + k * 2) [.int .u32 0, .int .u32 0] = wd := ⟨_, rfl⟩
                have Od := Lib.hid (show Only (fun q => q = bi) wc wd by rw [← hwd]; exact only_setCells bi _ _ wc)
                have Sd := Lib.hid (show SoftR wd gb fe L from HS.out.arcs hfb Od.out (fun cj hcj => ⟨_, by rw [← hwd]; exact heap_setCells_in bi 42 (0, 0) _ _ wc cj hcj, setsAt_size _ _ _⟩))
                rw [hwd]
                clear hwd
                refine ⟨⟨_, _, _, _, _, _, _, _, _, _, _, _, _, _, _, _, _, _, _, ?rel, rfl⟩, ?measure⟩
                case rel => exact ⟨k + 1, by omega, by go_num, Sd.out, O4.out.trans Od.out (fun q _ e => .inr (e ▸ hfb))⟩
                case measure => simp [intOf]; omega
              · obtain rfl : k = n := by omega
                clear hpos
                go_wp2_with fail
                go_roundw
                case rel => exact ⟨i + 1, by omega, by go_num, HS.out, O4.out⟩
                case measure => simp [intOf]; omega
          · obtain rfl : i = L.length := by omega
            clear hS
            have GA := Lib.hid (show GraphIs wa (fun b => wo.heap.size ≤ b ∧ b < w2.heap.size) p l from G3.out.only O3.out (fun b hb _ e => by rcases e with e | e; omega; have := (Hfe.out b e).2; omega))
            have hz3 := Z3.out
            have hz2 := E2.out.size
            have hza := O3.out.size
            have BA := Lib.hid (B3.out.trans (O3.out.below B3.out.size (fun q hq e => by rcases e with e | e; omega; have := (Hfe.out q e).1; omega)))
            have HAr := Lib.hid (garcs_any p l v _ wa hF.len hF.arcs hF.pair GA.out)
            have hAV : (arcs15M l v).length ≤ 50 := by
              rcases arcs15_mem (R := l) (v := v) with h | ⟨r, hr, _, h⟩
              · rw [h]; simp
              · rw [h]; exact Hal.out r hr
            generalize arcs15M l v = AV at *
            have hLi : decide ((L.length : Int) < (l.length : Int)) = false := decide_eq_false (by omega)
            rw [hLl]
            go_wp2_with (go_at_call 29; (with_reducible refine HAr.out.mono ?_); rintro e w4 ⟨a4, c4, g4, rfl, h4, h5, hx⟩; have Y4 := Lib.hid h4; have Y5 := Lib.hid h5; have G4 := Lib.hid (GA.out.ext hx); have Z4 := Lib.hid hx.size; have B4 := Lib.hid (BA.out.trans (hx.mono BA.out.size)); clear h4 h5 hx)
            go_loopw [12] (fun v12 wr => n3I AV.length a4 c4 g4 w4 v12 wr) (fun v12 _ => AV.length - (intOf v12).toNat)
            case atStart => exact ⟨0, AV, Nat.zero_le _, rfl, rfl, Y4.out, Only.refl _ _⟩
            case round =>
              obtain ⟨k, A, hk, hAl, rfl, hO, hO5⟩ := hrel
              rename World => wc
              have O5 := Lib.hid hO5
              clear hO5
              by_cases hkt : k < AV.length
              · have hkA : k < A.length := by omega
                have hadr : ∃ q, g4 = some q ∧ a4 = some ⟨q, 0, none⟩ := by
                  obtain ⟨css, ho, _⟩ := hO
                  obtain ⟨q, h1, h2, _⟩ := ho.pos (by omega)
                  exact ⟨q, h1, h2⟩
                obtain ⟨q, rfl, rfl⟩ := hadr
                have hkr : (k : Int) < (AV.length : Int) := by omega
                have Hth := Lib.hid (show wc.there q (k * 2) 2 from hO.there hkA)
                have HO := Lib.hid (show OwnS arcRep (fun _ => False) (wc.setCells q (k * 2) [.int .u32 0, .int .u32 0]) (some ⟨q, 0, none⟩) c4 (some q) 42 (A.set k (0, 0)) from hO.setAt (fun _ h => h.elim) hkA (x := (0, 0)) (cs := [.int .u32 0, .int .u32 0]) ⟨[_], [_], rfl, ⟨rfl, by decide⟩, ⟨rfl, by decide⟩⟩)
                clear hO
                go_wp2_with (refine wpList_store_mid rfl _ _ _ rfl q (k * 2) #[.int .u32 0, .int .u32 0] rfl rfl Hth.out (by kernel_rfl) (by simp [Value.oneCell']) ?_)
                obtain ⟨wd, hwd⟩ : ∃ wd, wc.setCells q (k * 2) [.int .u32 0, .int .u32 0] = wd := ⟨_, rfl⟩
                have Od := Lib.hid (show Only (fun b => b = q) wc wd by rw [← hwd]; exact only_setCells q _ _ wc)
                rw [hwd] at HO ⊢
                clear hwd
                go_roundw
                case rel => exact ⟨k + 1, A.set k (0, 0), by omega, by rw [List.length_set]; exact hAl, by go_num, HO.out, O5.out.trans Od.out (fun b _ e => by rw [e])⟩
                case measure => simp [intOf]; omega
              · obtain rfl : k = AV.length := by omega
                clear hO
                have hzc := O5.out.size
                have hz4 := Z4.out
                have G5 := Lib.hid (show GraphIs wc (fun b => wo.heap.size ≤ b ∧ b < w2.heap.size) p l from G4.out.only O5.out (fun b hb _ e => by have := Y5.out b e; omega))
                have B5 := Lib.hid (B4.out.trans (O5.out.below B4.out.size (fun b hb e => by have := Y5.out b e; have := BA.out.size; omega)))
                have HRw := Lib.hid (lrows_any p l _ wc hF.len hF.rows G5.out (fun b hb => by omega))
                have HS14 := Lib.hid (fun a b ca cb fa fb W ha hb => same14_any l a b ca cb fa fb W (by omega) (fun r hr => by have := Hal.out r hr; omega) ha hb)
                have HEd := Lib.hid (fun W (h : GraphIs W (fun b => wo.heap.size ≤ b ∧ b < w2.heap.size) p l) (hs : w2.heap.size ≤ W.heap.size) => gedges_any p l _ W hF.len hF.each (by have := hF.edges; omega) h (fun b hb => by omega))
                have HrE := Lib.hid (fun W (h : Below w.heap.size w W) => redges15_any l ao ca fp W hF.len (by have := hF.edges; omega) (Hrd.out.ext h))
                have HS12 := Lib.hid (fun a b ca cb fa fb W ha hb => gsame12_any (edgesM l) a b ca cb fa fb W (by have := hF.edges; omega) ha hb)
                generalize edgesM l = EV at *
                go_wp2_with (first
                  | (go_at_call 26; (with_reducible refine HRw.out.mono ?_); rintro e w6 ⟨a6, c6, g6, f6, rfl, h6, h7, h8, hx⟩; have Y6 := Lib.hid h6; have Y7 := Lib.hid h7; have Y8 := Lib.hid h8; have G6 := Lib.hid (G5.out.ext hx); have Z6 := Lib.hid hx.size; have B6 := Lib.hid (B5.out.trans (hx.mono B5.out.size)); clear h6 h7 h8 hx)
                  | (go_at_call 25; (with_reducible refine (HS14.out _ _ _ _ _ _ _ Y6.out.rd (Hrd.out.ext B6.out)).mono ?_); rintro e w7 ⟨rfl, hx⟩; have Y9 := Lib.hid hx; have G7 := Lib.hid (G6.out.ext hx); have B7 := Lib.hid (B6.out.trans (hx.mono B6.out.size)); clear hx))
                have hzc2 : w2.heap.size ≤ wc.heap.size := by omega
                obtain ⟨b6, hadr⟩ : ∃ b6, 0 < L.length → g6 = some b6 ∧ a6 = some ⟨b6, 0, none⟩ := by
                  by_cases h0 : 0 < L.length
                  · obtain ⟨css, ho, _⟩ := Y6.out
                    obtain ⟨q, h1, h2, _⟩ := ho.pos (by omega)
                    exact ⟨q, fun _ => ⟨h1, h2⟩⟩
                  · exact ⟨0, fun h => absurd h h0⟩
                have S7 := Lib.hid (show 0 < L.length → SoftR w7 b6 f6 L from fun h => by
                  obtain ⟨e1, e2⟩ := hadr h
                  have h9 := Y6.out
                  rw [e1, e2] at h9
                  have h8 := SoftR.of h9 (fun k hk => ⟨fun e => (Y7.out k hk).2.1 (by rw [e1, e]), (Y7.out k hk).2.2⟩)
                  rw [HLm.out] at h8
                  exact h8.keep Y9.out)
                have Hf6 := Lib.hid (fun k (h : f6 k) => (Y7.out k h).1)
                clear Y6 Y7
                go_loopw [15, 16] (fun v15 v16 wr => n4I L b6 f6 wc.heap.size w7 v15 wr) (fun v15 _ _ => L.length - (intOf v15).toNat)
                case atStart => exact ⟨0, Nat.zero_le _, rfl, S7.out, Only.refl _ _⟩
                case round =>
                  obtain ⟨i, hi, rfl, hSi, hO7⟩ := hrel
                  rename World => we
                  have O7 := Lib.hid hO7
                  clear hO7
                  by_cases hlt6 : i < L.length
                  · have hS := hSi (by omega)
                    obtain ⟨e1, rfl⟩ := hadr (by omega)
                    have hir6 : (i : Int) < (l.length : Int) := by omega
                    have HS := Lib.hid hS
                    have hn5 := HL5.out i hlt6
                    obtain ⟨n, hn⟩ : ∃ n, L[i] = n := ⟨_, rfl⟩
                    have Hn := Lib.hid hn
                    rw [hn] at hn5
                    clear hS hSi hn
                    go_wp2_with fail
                    go_loopw [16] (fun v16 wr => n4J L b6 f6 wc.heap.size w7 n v16 wr) (fun v16 _ => n - (intOf v16).toNat)
                    case atStart => exact ⟨0, Nat.zero_le _, rfl, HS.out, O7.out⟩
                    case round =>
                      obtain ⟨k, hk, rfl, hS, hO8⟩ := hrel
                      rename World => wf
                      obtain ⟨x2, a2, c2, _, _, hc1, _, hpos⟩ := hS.cell hlt6
                      rw [Hn.out] at hc1 hpos
                      have HS8 := Lib.hid hS
                      have O8 := Lib.hid hO8
                      clear hS hO8
                      by_cases hkt : k < n
                      · obtain ⟨bi, oi, ci, rfl, hfb, hci, hsz⟩ := hpos (by omega)
                        have hkr : (k : Int) < (n : Int) := by omega
                        obtain ⟨old, hce⟩ : ∃ old, wf.cell? ⟨bi, oi + k * 2 + 1, none⟩ = some old := ⟨ci[oi + k * 2 + 1]'(by omega), by rw [cell_of_row wf bi _ ci _ (0, 0) hci, Array.getElem?_eq_getElem (by omega)]⟩
                        have hcf : wf.frozen? ⟨bi, oi + k * 2 + 1, none⟩ = false := frozen_of_row wf bi _ ci _ hci
                        clear hpos hci hsz
                        go_wp2_with fail
                        go_roundw
                        case rel =>
                          have h9 : Only (fun q => q = bi) wf (wf.setCell ⟨bi, oi + k * 2 + 1, none⟩ (.int .u32 0)) := (Only.refl (fun q => q = bi) wf).setCell (p := ⟨bi, oi + k * 2 + 1, none⟩) (fun _ => rfl) _
                          exact ⟨k + 1, by omega, by go_num, HS8.out.arcs hfb h9 (fun cj hcj => ⟨_, heap_setCells_in bi 42 (0, 0) [.int .u32 0] (oi + k * 2 + 1) wf cj hcj, setsAt_size _ _ _⟩), O8.out.trans h9 (fun q _ e => by have := Hf6.out bi hfb; omega)⟩
                        case measure => simp [intOf]; omega
                      · obtain rfl : k = n := by omega
                        clear hpos
                        go_wp2_with fail
                        go_roundw
                        case rel => exact ⟨i + 1, by omega, by go_num, fun _ => HS8.out, O8.out⟩
                        case measure => simp [intOf]; omega
                  · obtain rfl : i = L.length := by omega
                    clear hSi
                    have hzw7 : wc.heap.size ≤ w7.heap.size := by have h1 := Z6.out; have h2 := Y9.out.size; omega
                    have G8 := Lib.hid (show GraphIs we (fun b => wo.heap.size ≤ b ∧ b < w2.heap.size) p l from G7.out.only O7.out (fun b hb _ e => by omega))
                    have B8 := Lib.hid (B7.out.trans (O7.out.below B7.out.size (fun b hb e => by have := B5.out.size; omega)))
                    have hz8 : w2.heap.size ≤ we.heap.size := by have := O7.out.size; omega
                    rw [hLl]
                    go_wp2_with (first
                      | (go_at_call 33; (with_reducible refine (HEd.out _ G8.out hz8).mono ?_); rintro e w9 ⟨a9, c9, g9, rfl, h9, _, hx⟩; have S9 := Lib.hid h9.rd; have B9 := Lib.hid (B8.out.trans (hx.mono B8.out.size)); clear h9 hx)
                      | (go_at_call 34; (with_reducible refine (HrE.out _ B9.out).mono ?_); rintro e w10 ⟨a10, c10, g10, rfl, h10, _, hx⟩; have S10 := Lib.hid h10.rd; have T10 := Lib.hid (S9.out.ext hx); have B10 := Lib.hid (B9.out.trans (hx.mono B9.out.size)); clear h10 hx)
                      | (go_at_call 32; (with_reducible refine (HS12.out _ _ _ _ _ _ _ T10.out S10.out).mono ?_); rintro e w11 ⟨rfl, m, hw⟩; have B11 := Lib.hid (show Below w.heap.size w w11 by rw [hw]; exact below_drewN B10.out _); clear hw)
                      | (go_at_call 23; (with_reducible refine (HA.out _).mono ?_); rintro e w12 ⟨rfl, hx⟩; have B12 := Lib.hid (B11.out.trans (hx.mono B11.out.size)); clear hx))
                    go_ret
                    exact ⟨rfl, B12.out⟩
      · have hnr : newR l = ([], newM15 l) := by unfold newR; rw [if_neg hz]
        rw [hnr] at HNw
        clear hnr
        generalize newM15 l = z at *
        have e1 : ((z : Int) != 0) = true := bne_iff_ne.2 (by omega)
        have e1' : (z != 0) = true := bne_iff_ne.2 hz
        have e2 : ((z : Int) == (z : Int)) = true := beq_self_eq_true _
        have e2' : (z == z) = true := beq_self_eq_true _
        go_wp2_with (first
          | (go_at_call 38; (with_reducible refine HNw.out.mono ?_); rintro e w2 ⟨p, rfl, h3, _, _, hx⟩; obtain rfl : p = none := h3 hz; rw [show gV none = .pointer none from rfl]; have B2 := Lib.hid (HB.out.trans (hx.mono HB.out.size)); clear h3 hx)
          | (go_at_call 40; (with_reducible refine (HRN.out _ B2.out).mono ?_); rintro e w3 ⟨rfl, hx⟩; have B3 := Lib.hid (B2.out.trans (hx.mono B2.out.size)); clear hx)
          | (go_at_call 40; (with_reducible refine (HRN.out _ B3.out).mono ?_); rintro e w4 ⟨rfl, hx⟩; have B4 := Lib.hid (B3.out.trans (hx.mono B3.out.size)); clear hx)
          | (go_at_call 23; (with_reducible refine (HA.out _).mono ?_); rintro e w5 ⟨rfl, hx⟩; have B5 := Lib.hid (B4.out.trans (hx.mono B4.out.size)); clear hx))
        go_ret
        exact ⟨rfl, B5.out⟩
end Go.Proofs.Ytlgnpogmgpgdaaa
