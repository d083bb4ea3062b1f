/- job.words. -/
import Derived.Test.YtmflopeedofkhaaJobTextP
import Derived.Test.YtmflopeedofkhaaByRdr
import Derived.Test.YtmflopeedofkhaaByText
namespace Go.Proofs.Ytmflopeedofkhaa
set_option linter.unusedSimpArgs false
set_option linter.unusedVariables false
set_option maxRecDepth 100000
open Go.RowKit

theorem Rd.conv19 {w : World} {ao : Option Addr} {n : Nat} {l : List UInt8} (h : Rd w ao n (byteVals l)) (hn : n = l.length) (cap : Nat) : (convert 22 9 (.slice ao n cap)).run Try.prog w = .ok (.string (bs l)) w := by
  subst hn
  rcases h.2 with h2 | ⟨b, off, h1, _, hc⟩
  · obtain rfl := List.eq_nil_of_length_eq_zero h2
    cases ao with
    | none => exact run_string_of Try.underlying22 Try.underlying5 Try.underlying9 (.inl ⟨rfl, rfl⟩)
    | some a =>
      rw [run_convert_bytes_string w 22 9 5 _ _ _ Try.underlying22 Try.underlying5 Try.underlying9]
      have h2 : (loadCells a 0).run Try.prog w = .ok ((([] : List Int).map (Value.int .u8))).toArray w := by
        have h1 := run_firstCells_some (P := Try.prog) w 1 0 a 0 cap [] rfl (fun j u hu => by simp at hu)
        simp only [Builtin.firstCells, Nat.mul_one] at h1
        exact h1
      simp only [List.length_nil]
      rw [run_bytesToString w _ _ _ _ h2]
      rfl
  · refine run_string_of Try.underlying22 Try.underlying5 Try.underlying9 ?_
    exact .inr ⟨b, off, h1, fun j u hu => by rw [hc j (by have := (List.getElem?_eq_some_iff.1 hu).1; simpa [byteVals] using this), hu]⟩
theorem own_one (w : World) (s : ByteArray) : Own (w.alloc (.cells #[.string s] 9)) (some ⟨w.heap.size, 0, none⟩) 1 (some w.heap.size) 9 1 1 [.string s] :=
  ⟨rfl, .inr ⟨w.heap.size, _, rfl, rfl, heap_alloc_new _ _, Nat.le_refl _, by simp [maxLen], rfl, rfl⟩⟩
theorem idx_kindU0 (W : World) : (Instr.index 64 kindV (.int .u8 ((0 : Nat) : Int))).run Try.prog W = .ok (.string (bs [102, 105, 120, 101, 100])) W := by kernel_rfl
theorem idx_kindU1 (W : World) : (Instr.index 64 kindV (.int .u8 ((1 : Nat) : Int))).run Try.prog W = .ok (.string (bs [114, 101, 115, 116, 97, 114, 116])) W := by kernel_rfl
theorem idx_kindU2 (W : World) : (Instr.index 64 kindV (.int .u8 ((2 : Nat) : Int))).run Try.prog W = .ok (.string (bs [115, 101, 99, 111, 110, 100])) W := by kernel_rfl
theorem idx_kindU : ∀ {k : Nat}, k < 3 → ∀ W : World, (Instr.index 64 kindV (.int .u8 (k : Nat))).run Try.prog W = .ok (.string (bs kindW[k]!)) W
  | 0, _, W => idx_kindU0 W
  | 1, _, W => idx_kindU1 W
  | 2, _, W => idx_kindU2 W
theorem put_nil (n : Nat) (hn : n < 18446744073709551616) (w : World) : Calls Try.prog 39 #[.slice none 0 0, .int .u64 n] w fun e w' => ∃ ao cap g, e = .returned (.slice ao (digits n).length cap) ∧ Own w' ao cap g 5 1 (digits n).length (byteVals (digits n)) ∧ Below w.heap.size w w' := by
  refine (put_any [] n (by simp) hn w none 0 none (Own.nil w 5 1)).mono ?_
  rintro e w' ⟨ao, cap, g, rfl, h1, h2, h3⟩
  rw [List.length_nil, Nat.zero_add] at h1 ⊢
  exact ⟨ao, cap, g, rfl, h1, h3.below (Nat.le_refl _) (fun k _ e => by cases e)⟩
/-- the numbers' texts so far -/
def jwI (j : JobD) (cs : List (Nat × Nat × Nat)) (w1 : World) (v i : Value) (wr : World) : Prop :=
  ∃ (a : Nat) (ao : Option Addr) (cap : Nat) (g : Option Nat), a ≤ cs.length ∧ i = .int .i64 (a : Nat) ∧ v = .slice ao a cap ∧ Own wr ao cap g 9 1 a (strCells ((cs.take a).map (fun x => digits (jobC j x.1)))) ∧ (∀ b, g = some b → w1.heap.size ≤ b) ∧ Below w1.heap.size w1 wr
set_option maxRecDepth 100000 in
set_option maxHeartbeats 6400000 in
theorem jwords_any (jb : Nat) (j : JobD) (ok : JobOk j) (hk : j.kind < 3) (so : Option Addr) (sc : Nat) (k : W8) (hkk : k ∈ ordK) (w : World) (hrow : w.heap[jb]? = some (.cells (jobCs j so sc) 30 (0, 0))) :
    Calls Try.prog 38 #[.pointer (some ⟨jb, 0, none⟩), .string (bs k)] w (RetOwn 9 1 (argsJ j k).length (strCells (argsJ j k)) w) := by
  have HC := Lib.hid (show ∀ W, Below w.heap.size w W → ∀ i v, (jobCs j so sc)[i]? = some v → W.cell? ⟨jb, i, none⟩ = some v from fun W hB i v h => ((bcell hB).1 _ _ (blk_lt hrow)).trans ((cell_of_row _ _ _ _ _ _ hrow).trans h))
  clear hrow
  by_cases h1 : k = kWalk
  · have hA : argsJ j k = [kindW[j.kind]!] := by unfold argsJ; rw [if_pos h1]
    rw [hA]
    have y1 : (k == ([119, 97, 108, 107] : W8)) = true := by rw [h1]; decide
    have HK := Lib.hid (fun W => kindsX_any W)
    unfold RetB at HK
    have q0 := HC.out w (Below.refl _ _) 0 _ rfl
    have HQ := Lib.hid (fun W hB => HC.out W hB 0 (.int .u8 (j.kind : Nat)) rfl)
    have hidx := fun W => idx_kindU hk W
    generalize kindW[j.kind]! = kw at hidx ⊢
    generalize j.kind = x0 at *
    clear h1 hA hkk
    go_enter Try.func38, Try.ntmps38
    go_upto_region 3 with fail
    go_region_held3 (fun W => W.cell? ⟨jb, 0, none⟩ = some (.int .u8 (x0 : Nat)))
      (first | exact HQ.out _ HB1.out | exact HQ.out _ (ext_drew w) | exact HQ.out _ ((HB1.out).alloc HB1.out.size _))
      (first | (go_at_call 27; (with_reducible refine (HK.out _).mono ?_); rintro e w1 ⟨rfl, hB⟩; have HB1 := Lib.hid ((ext_drew w).trans hB); clear hB) | fail "no arm")
    all_goals go_wp2_with fail
    all_goals go_ret
    all_goals exact ⟨_, _, _, rfl, own_one _ _, fun b hb => by cases hb; exact HB1.out.size, HB1.out.alloc HB1.out.size _⟩
  have y1 : (k == ([119, 97, 108, 107] : W8)) = false := beq_eq_false_iff_ne.2 h1
  by_cases h2 : k = kSeed
  · have hA : argsJ j k = [digits j.seed] := by unfold argsJ; rw [if_neg h1, if_pos h2]
    rw [hA]
    have y2 : (k == ([115, 101, 101, 100] : W8)) = true := by rw [h2]; decide
    have HP := Lib.hid (fun W => put_nil j.seed ok.seed W)
    have q1 := HC.out w (Below.refl _ _) 1 (.int .u64 (j.seed : Nat)) rfl
    generalize j.seed = x1 at *
    generalize digits x1 = d at *
    clear h1 h2 hA hkk
    go_enter Try.func38, Try.ntmps38
    go_wp2_with (go_at_call 39; (with_reducible refine (HP.out _).mono ?_); rintro e w1 ⟨a1, c1, g1, rfl, ho, hB⟩; have hcv := ho.rd.conv19 rfl c1; have HB1 := Lib.hid hB; clear ho hB)
    go_ret
    exact ⟨_, _, _, rfl, own_one _ _, fun b hb => by cases hb; exact HB1.out.size, HB1.out.alloc HB1.out.size _⟩
  have y2 : (k == ([115, 101, 101, 100] : W8)) = false := beq_eq_false_iff_ne.2 h2
  obtain ⟨e, he, hek, hen⟩ : ∃ e ∈ numTab, e.1 = k ∧ entryJ k = e.2 := (entry_cases k).resolve_left (fun h => by
    have h3 := (wants_args j hkk).1
    unfold wantsJ at h3
    rw [if_neg (by
      have := (wants_args j hkk).2.2
      simp [h1, h2, this]), h] at h3
    exact h3 rfl)
  have hA : argsJ j k = e.2.map (fun x => digits (jobC j x.1)) := by unfold argsJ; rw [if_neg h1, if_neg h2, hen]
  rw [hA]
  subst hek
  obtain ⟨k, cs⟩ := e
  simp only at hen hA y1 y2 h1 h2 hkk ⊢
  have hcl := numTab_len _ he
  have HE := Lib.hid he
  have HNs := Lib.hid (fun W => numbers_any jb 0 W)
  have HOk := Lib.hid ok
  have hE := strsElem
  simp only at hcl
  clear hA hen he h1 h2 hkk ok
  go_enter Try.func38, Try.ntmps38
  go_wp2_with (go_at_call 28; refine (HNs.out _).mono ?_; rintro e w1 ⟨nb, es, rfl, hx, hy, hz⟩; obtain ⟨b, hlk, hbk⟩ := nums_lookup hy HE.out; have B1 := Lib.hid hz; have Hbk := Lib.hid hbk; clear hx hy hz hbk)
  go_loopw [5, 32] (fun v i wr => jwI j cs w1 v i wr) (fun _ i _ => cs.length - (intOf i).toNat)
  case atStart => exact ⟨0, none, 0, none, Nat.zero_le _, rfl, rfl, Own.nil _ _ _, fun b hb => (by cases hb), Below.refl _ _⟩
  case round =>
    obtain ⟨a, ao, cap, g, ha, rfl, rfl, ho, hg, hB⟩ := hrel
    have Ho := Lib.hid ho
    have Hg := Lib.hid hg
    have HB := Lib.hid hB
    clear ho hg hB
    by_cases hlt : a < cs.length
    · have hir : (a : Int) < (cs.length : Int) := by omega
      obtain ⟨c0, c1, c2⟩ := numCs_at jb 0 cs a hlt
      have hbc : ∀ i v, (numCs jb 0 cs)[i]? = some v → wr.cell? ⟨b, i, none⟩ = some v := fun i v h => by
        rw [(bcell HB.out).1 _ _ (blk_lt Hbk.out), cell_of_row _ _ _ _ _ _ Hbk.out]
        simpa using h
      have c0 := hbc _ _ c0
      have c1 := hbc _ _ c1
      have c2 := hbc _ _ c2
      rw [Nat.zero_add] at c0
      have hnum := numTab_cells _ HE.out cs[a] (List.getElem_mem hlt)
      have HT := Lib.hid (show strCells ((cs.take (a + 1)).map (fun x => digits (jobC j x.1))) = strCells ((cs.take a).map (fun x => digits (jobC j x.1))) ++ [.string (bs (digits (jobC j cs[a].1)))] by
        rw [List.take_succ_eq_append_getElem hlt, List.map_append, List.map_cons, List.map_nil]
        simp only [strCells, List.map_append, List.map_cons, List.map_nil])
      have hBw := B1.out.trans (HB.out.mono B1.out.size)
      have HBw := Lib.hid hBw
      have cj := HC.out wr hBw cs[a].1 _ (jobCs_at hnum)
      have hcv := jobC_lt HOk.out cs[a].1
      have HP := Lib.hid (fun W => put_nil (jobC j cs[a].1) (by omega) W)
      generalize cs[a] = x at c0 c1 c2 cj hcv HP HT
      obtain ⟨xc, lo, hi⟩ := x
      simp only at c0 c1 c2 cj hcv HP HT
      generalize jobC j xc = v at cj hcv HP HT
      have u1 : IntKind.u64.wrap (v : Int) = (v : Int) := IntWalk.u64_in _ (by omega)
      generalize digits v = d at HP HT
      generalize strCells ((cs.take a).map (fun x => digits (jobC j x.1))) = sl at Ho HT
      clear hbc hnum hBw
      go_upto_region 10 with fail
      obtain ⟨wA, hwA⟩ : ∃ wA, wA = wr.alloc (.cells #[.pointer (some ⟨jb, xc, none⟩), .int .u64 (lo : Nat), .int .u64 (hi : Nat)] 72) := ⟨_, rfl⟩
      rw [← hwA]
      obtain ⟨nx, hnx⟩ : ∃ nx, nx = wr.heap.size := ⟨_, rfl⟩
      have d0 : wA.cell? ⟨nx, 0, none⟩ = some (.pointer (some ⟨jb, xc, none⟩)) := by rw [hwA, hnx, World.cell?_alloc_new]; rfl
      have hBA : Below wr.heap.size wr wA := by rw [hwA]; exact ext_alloc wr _
      have dj : wA.cell? ⟨jb, xc, none⟩ = some (.int .u32 (v : Nat)) := ((bcell hBA).1 _ _ (World.block_lt_of_cell? wr _ cj)).trans cj
      have HBA := Lib.hid hBA
      rw [← hnx]
      clear hwA c0 c1 c2 cj hnx hBA
      go_wp2_with (first
        | (go_at_call 39; (with_reducible refine (HP.out _).mono ?_); rintro e w5 ⟨a5, c5, g5, rfl, ho5, hB5⟩; have hcv5 := ho5.rd.conv19 rfl c5; have HB5 := Lib.hid hB5; clear ho5 hB5)
        | (at_builtin; refine wpList_app rfl (.tmp 36) (.tmp 44) 39 39 rfl hE (((Ho.out.ext HBA.out).ext (HB5.out)).ext (ext_alloc _ _)) rfl rfl (srcOne Try.underlying39 _ _ _ _ rfl) (by simp [maxLen]; omega) (by omega) ?_; intro ao7 cap7 g7 w7 ho7 hg7 hon7; have H7 := Lib.hid ho7; have Hg7 := Lib.hid hg7; have O7 := Lib.hid hon7; clear ho7 hg7 hon7))
      go_roundw
      case rel =>
        have hz1 := HB.out.size
        have hzA := HBA.out.size
        have hz5 := HB5.out.size
        have b5 : Below w1.heap.size w1 w5 := HB.out.trans ((HBA.out.trans (HB5.out.mono hzA)).mono hz1)
        refine ⟨a + 1, ao7, cap7, g7, by omega, by go_num, rfl, by rw [HT.out]; exact H7.out, fun q hq => ?_, (b5.alloc b5.size _).trans (O7.out.below (by have := b5.size; simp; omega) (fun q hq e => by have := Hg.out q e; omega))⟩
        rcases Hg7.out with h | h
        · exact Hg.out q (h ▸ hq)
        · rw [h] at hq; cases hq; have := b5.size; simp; omega
      case measure => simp [intOf]; omega
    · obtain rfl : a = cs.length := by omega
      rw [List.take_length] at Ho
      go_wp2_with fail
      go_ret
      rw [List.length_map]
      exact ⟨ao, cap, g, rfl, Ho.out, fun q hq => Nat.le_trans B1.out.size (Hg.out q hq), B1.out.trans (HB.out.mono B1.out.size)⟩
end Go.Proofs.Ytmflopeedofkhaa
