/- job.Print. -/
import Derived.Test.YtmflopeedofkhaaJJoin
import Derived.Test.YtmflopeedofkhaaJWords
import Derived.Test.YtmflopeedofkhaaJRefPrint
import Derived.Test.YtmflopeedofkhaaByJobM
namespace Go.Proofs.Ytmflopeedofkhaa
set_option linter.unusedSimpArgs false
set_option linter.unusedVariables false
set_option maxRecDepth 100000
open Go.RowKit

theorem srcStr19 (l : W8) (w : World) : Src Try.prog 1 9 (.string (bs l)) l.length (byteVals l) w := by
  have h := Src.ofString w Try.underlying9 (bs l)
  rw [bs_size] at h
  have e : byteCells (bs l) = byteVals l := by simp [byteCells, byteVals, bs]
  rw [e] at h
  exact h
theorem byteVals_app (a b : W8) : byteVals a ++ byteVals b = byteVals (a ++ b) := by simp [byteVals]
def prI (f : Nat → W8) (N : Nat) (w1 : World) (v i : Value) (wr : World) : Prop :=
  ∃ (a : Nat) (ao : Option Addr) (cap : Nat) (g : Option Nat), a ≤ N ∧ i = .int .i64 (a : Nat) ∧ v = .slice ao (f a).length cap ∧ Own wr ao cap g 5 1 (f a).length (byteVals (f a)) ∧ (∀ b, g = some b → w1.heap.size ≤ b) ∧ Below w1.heap.size w1 wr
def oF (j : JobD) (a : Nat) : W8 := ((ordLines j).take a).flatMap (fun l => l ++ [10])
def sF (P : W8) (l : List Nat) (a : Nat) : W8 := P ++ (l.take a).flatMap (fun v => rowT kSource v)
theorem oF_next (j : JobD) {a : Nat} (h : a < 12) : oF j (a + 1) = oF j a ++ (lineB ordK[a]! (argsJ j ordK[a]!) ++ [10]) := by
  unfold oF
  have hl : (ordLines j).length = 12 := by simp [ordLines, ordK]
  rw [List.take_succ_eq_append_getElem (by omega), List.flatMap_append]
  congr 1
  unfold ordLines
  rw [getElem!_pos ordK a h]
  simp <;> rfl
theorem oF_end (j : JobD) : oF j 12 = p10 j := by
  unfold oF
  have hl : (ordLines j).length = 12 := by simp [ordLines, ordK]
  rw [List.take_of_length_le (by omega), p10_own]
theorem sF_next (P : W8) (l : List Nat) {a : Nat} (h : a < l.length) : sF P l (a + 1) = sF P l a ++ [115, 111, 117, 114, 99, 101, 32] ++ digits l[a] ++ [10] := by
  unfold sF
  rw [List.take_succ_eq_append_getElem h, List.flatMap_append]
  simp [rowT, kSource]
def PrintYes (T : W8) (w : World) (e : Ending) (w' : World) : Prop := ∃ ao cap g, e = .returned (.tuple #[.slice ao T.length cap, .int .i64 0]) ∧ Own w' ao cap g 5 1 T.length (byteVals T) ∧ Below w.heap.size w w'
theorem jprint_no (j : JobD) (ok : JobOk j) (hm : mayJ j = false) (so : Option Addr) (sc : Nat) (w : World) (hrd : Rd w so j.src.length (u32s j.src)) :
    Calls Try.prog 16 #[.agg (jobCs j so sc)] w (RetB (.tuple #[.slice none 0 0, .int .i64 3]) w) := by
  obtain ⟨W0, hW0⟩ : ∃ W0, w.alloc (.cells (jobCs j so sc) 30) = W0 := ⟨_, rfl⟩
  have B0 := Lib.hid (show Below w.heap.size w W0 by rw [← hW0]; exact ext_alloc w _)
  have R0 := Lib.hid (show W0.heap[w.heap.size]? = some (.cells (jobCs j so sc) 30 (0, 0)) by rw [← hW0]; exact heap_alloc_new _ _)
  have HIj := Lib.hid (jb_info19 j so sc)
  have HM := Lib.hid (show Calls Try.prog 12 #[.agg (jobCs j so sc)] W0 (fun e w' => e = .returned (.bool false) ∧ Below W0.heap.size W0 w') from hm ▸ may_any j ok so sc W0 (hrd.ext B0.out))
  have HW0 := Lib.hid hW0
  clear hW0 hrd
  generalize jobCs j so sc = jc at *
  go_enter Try.func16, Try.ntmps16
  go_upto_region 1 with fail
  rw [HW0.out]
  go_wp2_with (first
    | (refine wpList_load_row rfl 30 _ rfl w.heap.size rfl 30 _ (0, 0) _ R0.out Try.underlying30 rfl HIj.out ?_)
    | (go_at_call 12; (with_reducible refine HM.out.mono ?_); rintro e w7 ⟨rfl, hx⟩; have B7 := Lib.hid hx; clear hx))
  go_ret2
  exact ⟨rfl, B0.out.trans (B7.out.mono B0.out.size)⟩
theorem lineB_len {j : JobD} (ok : JobOk j) (hk : j.kind < 3) {k : W8} (hkk : k ∈ ordK) : k.length ≤ 7 ∧ (argsJ j k).length ≤ 2 ∧ 0 < (argsJ j k).length ∧ ∀ x ∈ argsJ j k, x.length ≤ 20 := by
  have h1 : k.length ≤ 7 := by
    have : ∀ k ∈ ordK, k.length ≤ 7 := by decide
    exact this k hkk
  obtain ⟨w1, w2, _⟩ := wants_args j hkk
  have h2 : wantsJ k ≤ 2 := by
    have : ∀ k ∈ ordK, wantsJ k ≤ 2 := by decide
    exact this k hkk
  refine ⟨h1, by omega, by omega, fun x hx => ?_⟩
  unfold argsJ at hx
  split at hx
  · rw [List.mem_singleton] at hx
    rw [hx]
    have : j.kind = 0 ∨ j.kind = 1 ∨ j.kind = 2 := by omega
    rcases this with h | h | h <;> rw [h] <;> decide
  · split at hx
    · rw [List.mem_singleton] at hx
      rw [hx]; exact digits_20 _ ok.seed
    · obtain ⟨y, _, rfl⟩ := List.mem_map.1 hx
      exact digits_20 _ (by have := jobC_lt ok y.1; omega)
theorem joinW_len : ∀ (ws : List W8), ws.length ≤ 2 → (∀ x ∈ ws, x.length ≤ 20) → (joinW ws).length ≤ 41
  | [], _, _ => by simp [joinW]
  | [x], _, h => by
    have := h x (by simp)
    simp [joinW]; try omega
  | [x, y], _, h => by
    have h1 := h x (by simp)
    have h2 := h y (by simp)
    simp [joinW]; omega
  | _ :: _ :: _ :: _, h, _ => by simp at h
theorem oF_len {j : JobD} (ok : JobOk j) (hk : j.kind < 3) : ∀ a, a ≤ 12 → (oF j a).length ≤ a * 60
  | 0, _ => by simp [oF]
  | a + 1, h => by
    have ih := oF_len ok hk a (by omega)
    obtain ⟨h1, h2, h3, h4⟩ := lineB_len ok hk (ord_mem (show a < 12 by omega))
    have h5 := joinW_len _ h2 h4
    rw [oF_next j (by omega), ← join_line _ (List.length_pos_iff.1 h3)]
    simp only [List.length_append, List.length_cons, List.length_nil]
    omega
set_option maxRecDepth 100000 in
set_option maxHeartbeats 6400000 in
theorem jprint_yes (j : JobD) (ok : JobOk j) (hm : mayJ j = true) (so : Option Addr) (sc : Nat) (w : World) (hrd : Rd w so j.src.length (u32s j.src)) :
    Calls Try.prog 16 #[.agg (jobCs j so sc)] w (PrintYes (printJ j) w) := by
  obtain ⟨W0, hW0⟩ : ∃ W0, w.alloc (.cells (jobCs j so sc) 30) = W0 := ⟨_, rfl⟩
  have B0 := Lib.hid (show Below w.heap.size w W0 by rw [← hW0]; exact ext_alloc w _)
  have R0 := Lib.hid (show W0.heap[w.heap.size]? = some (.cells (jobCs j so sc) 30 (0, 0)) by rw [← hW0]; exact heap_alloc_new _ _)
  have HIj := Lib.hid (jb_info19 j so sc)
  have HM := Lib.hid (show Calls Try.prog 12 #[.agg (jobCs j so sc)] W0 (fun e w' => e = .returned (.bool true) ∧ Below W0.heap.size W0 w') from hm ▸ may_any j ok so sc W0 (hrd.ext B0.out))
  have hmm := may_inB ok hm
  have hk3 := hmm.1
  have hfew := hmm.2.2.2.2.1
  obtain ⟨jb, hjb⟩ : ∃ jb, jb = w.heap.size := ⟨_, rfl⟩
  have Hjb := Lib.hid hjb
  rw [← hjb] at R0
  have HWd := Lib.hid (fun k (hk : k ∈ ordK) W (hB : Below W0.heap.size W0 W) => jwords_any jb j ok hk3 so sc k hk W ((hB.block _ (blk_lt R0.out)).trans R0.out))
  have HOr := Lib.hid (fun W => order_any W)
  have HC4 := Lib.hid (fun W (hB : Below W0.heap.size W0 W) => (show W.cell? ⟨jb, 4, none⟩ = some (.slice so j.src.length sc) from ((bcell hB).1 _ _ (blk_lt R0.out)).trans ((cell_of_row _ _ _ _ _ _ R0.out).trans rfl)))
  have Hrd := Lib.hid (hrd.ext B0.out)
  have HW0 := Lib.hid hW0
  have HJ := Lib.hid (And.intro ok hk3)
  have Hpr := Lib.hid (printJ_own j)
  have hE := bytesElem
  clear hW0 hrd hmm hjb
  generalize printJ j = PJ at *
  generalize jobCs j so sc = jc at *
  go_enter Try.func16, Try.ntmps16
  go_upto_region 1 with fail
  rw [HW0.out, ← Hjb.out]
  go_wp2_with (first
    | (refine wpList_load_row rfl 30 _ rfl jb rfl 30 _ (0, 0) _ R0.out Try.underlying30 rfl HIj.out ?_)
    | (go_at_call 12; (with_reducible refine HM.out.mono ?_); rintro e w1 ⟨rfl, hx⟩; have B1 := Lib.hid hx; clear hx)
    | (go_at_call 36; (with_reducible refine (HOr.out _).mono ?_); rintro e w2 ⟨rfl, hx⟩; have B2 := Lib.hid (B1.out.trans (hx.mono B1.out.size)); clear hx))
  go_loopw [4, 6, 13] (fun v _ i wr => prI (oF j) 12 w2 v i wr) (fun _ _ i _ => 12 - (intOf i).toNat)
  case atStart => exact ⟨0, none, 0, none, by omega, rfl, rfl, Own.nil _ _ _, fun b hb => (by cases hb), Below.refl _ _⟩
  case round =>
    obtain ⟨a, ao, cap, g, ha, rfl, rfl, ho, hg, hB⟩ := hrel
    have Ho := Lib.hid ho
    have Hg := Lib.hid hg
    have HB := Lib.hid hB
    clear ho hg hB
    by_cases hlt : a < 12
    · have hir : (a : Int) < 12 := by omega
      have hidx := fun W => idx_ord hlt W
      have hmem := ord_mem hlt
      have Bw := Lib.hid (B2.out.trans (HB.out.mono B2.out.size))
      have HNx := Lib.hid (oF_next j hlt)
      obtain ⟨q1, q2, q3, q4⟩ := lineB_len HJ.out.1 HJ.out.2 hmem
      have hjl := joinW_len _ q2 q4
      have hol := oF_len HJ.out.1 HJ.out.2 a ha
      have HWk := Lib.hid (HWd.out _ hmem wr Bw.out)
      have hline := join_line ordK[a]! (List.length_pos_iff.1 q3)
      rw [← hline] at HNx
      generalize ordK[a]! = k at *
      generalize argsJ j k = ar at *
      obtain ⟨n, hn⟩ : ∃ n, ar.length = n := ⟨_, rfl⟩
      have HJn := Lib.hid (fun W ao cap (hc : n ≤ cap) (h : Rd W ao n (strCells ar)) => (show Calls Try.prog 37 #[.slice ao n cap, .string ⟨#[32]⟩] W (RetB (.string (bs (joinW ar))) W) by
        subst hn; exact joinJ_any ar q3 (by omega) (by omega) W ao cap hc h))
      rw [hn] at HWk
      generalize joinW ar = J at *
      have a1 := str_add k [32] (by simp; omega)
      have a2 := str_add (k ++ [32]) J (by simp; omega)
      have a3 := str_add (k ++ [32] ++ J) [10] (by simp; omega)
      simp only [show bs [32] = ⟨#[32]⟩ from rfl, show bs [10] = ⟨#[10]⟩ from rfl] at a1 a3
      have HS := Lib.hid (fun W => srcStr19 (k ++ [32] ++ J ++ [10]) W)
      have hQl : (k ++ [32] ++ J ++ [10]).length ≤ 60 := by simp; omega
      obtain ⟨Q, hQ⟩ : ∃ Q, k ++ [32] ++ J ++ [10] = Q := ⟨_, rfl⟩
      rw [hQ] at a3 HS hQl HNx
      generalize hs1 : bs (k ++ [32]) = s1 at a1 a2
      generalize hs2 : bs (k ++ [32] ++ J) = s2 at a2 a3
      generalize oF j a = O at Ho hol HNx ⊢
      have HQ := Lib.hid hQ
      clear hs1 hs2 hQ hline hmem q1 q2 q3 q4 hjl hn
      go_wp2_with (first
        | (go_at_call 38; (with_reducible refine HWk.out.mono ?_); rintro e w5 ⟨wa, wc, wg, rfl, hx, hy, hz⟩; have Wo := Lib.hid hx; have B5 := Lib.hid hz; clear hx hy hz)
        | (go_at_call 37; (with_reducible refine (HJn.out _ _ _ Wo.out.capLe.1 Wo.out.rd).mono ?_); rintro e w6 ⟨rfl, hx⟩; have B6 := Lib.hid (B5.out.trans (hx.mono B5.out.size)); clear hx)
        | (at_builtin; refine wpList_app rfl (.tmp 16) (.tmp 23) 22 9 rfl hE (Ho.out.ext B6.out) rfl rfl (HS.out _) (by simp [maxLen]; omega) (by omega) ?_; intro ao7 cap7 g7 w7 ho7 hg7 hon7; have H7 := Lib.hid ho7; have Hg7 := Lib.hid hg7; have O7 := Lib.hid hon7; clear ho7 hg7 hon7))
      go_roundw
      case rel =>
        have b6 : Below w2.heap.size w2 w6 := HB.out.trans (B6.out.mono HB.out.size)
        have hlen : (oF j (a + 1)).length = O.length + Q.length := by rw [HNx.out, List.length_append]
        refine ⟨a + 1, ao7, cap7, g7, by omega, by go_num, by rw [hlen], ?_, fun q hq => ?_, b6.trans (O7.out.below b6.size (fun q hq e => by have := Hg.out q e; omega))⟩
        · rw [hlen, HNx.out, ← byteVals_app]; exact H7.out
        · rcases Hg7.out with h | h
          · exact Hg.out q (h ▸ hq)
          · rw [h] at hq; cases hq; exact b6.size
      case measure => simp [intOf]; omega
    · obtain rfl : a = 12 := by omega
      rw [oF_end] at Ho
      have hl10 := oF_len HJ.out.1 HJ.out.2 12 (by omega)
      rw [oF_end] at hl10
      have hsrcs := HJ.out.1.src
      have Bw := Lib.hid (B2.out.trans (HB.out.mono B2.out.size))
      have Hgw := Lib.hid (show ∀ b, g = some b → W0.heap.size ≤ b from fun b hb => Nat.le_trans B2.out.size (Hg.out b hb))
      have c4 := HC4.out wr Bw.out
      have Hp10 := Lib.hid (show oF j 12 = p10 j from oF_end j)
      rw [show (oF j 12).length = (p10 j).length by rw [oF_end]]
      generalize p10 j = P at *
      obtain ⟨l, hl⟩ : ∃ l, j.src = l := ⟨_, rfl⟩
      rw [hl] at c4 hsrcs hfew Hrd HC4 Hpr
      have Hsr := Lib.hid hsrcs
      clear hl hsrcs Hp10 HWd HJ Hg hlt ha
      rw [show ((12 : Nat) : Int) = 12 from rfl]
      go_wp2_with fail
      go_loopw [4, 8, 29] (fun v _ i wr' => prI (sF P l) l.length W0 v i wr') (fun _ _ i _ => l.length - (intOf i).toNat)
      case atStart =>
        have e0 : sF P l 0 = P := by simp [sF]
        exact ⟨0, ao, cap, g, Nat.zero_le _, rfl, by rw [e0], by rw [e0]; exact Ho.out, Hgw.out, Bw.out⟩
      case round =>
        rename World => ws
        obtain ⟨a, ao, cap, g, ha, rfl, rfl, ho, hg, hB⟩ := hrel
        have Ho := Lib.hid ho
        have Hg := Lib.hid hg
        have HBs := Lib.hid hB
        clear ho hg hB
        by_cases hlt : a < l.length
        · have hir : (a : Int) < (l.length : Int) := by omega
          obtain ⟨pb, po, rfl, hpb, hpc⟩ := Hrd.out.pos (by omega)
          have e1 := ((bcell HBs.out).1 _ _ hpb).trans (hpc a hlt)
          simp only [u32s, List.getElem?_map, List.getElem?_eq_getElem hlt, Option.map_some] at e1
          have hv := Hsr.out l[a] (List.getElem_mem hlt)
          have HNx := Lib.hid (sF_next P l hlt)
          have hsl := src_len l a (fun x hx => by have := Hsr.out x hx; omega)
          have hFl : (sF P l a).length = P.length + ((l.take a).flatMap (fun v => rowT kSource v)).length := by unfold sF; rw [List.length_append]
          generalize l[a] = y at e1 hv HNx
          have hd := digits_20 y (by omega)
          have HPt := Lib.hid (fun (F : W8) (hF : F.length ≤ 1000000) W ao cap g ho => put_any F y (by omega) (by omega) W ao cap g ho)
          have uy : IntKind.u64.wrap (y : Int) = (y : Int) := IntWalk.u64_in _ (by omega)
          generalize digits y = d at *
          generalize sF P l a = F at *
          obtain ⟨F7, hF7⟩ : ∃ F7, F ++ [115, 111, 117, 114, 99, 101, 32] = F7 := ⟨_, rfl⟩
          have hF7l : F7.length = F.length + 7 := by rw [← hF7, List.length_append]; rfl
          have HPt7 := Lib.hid (fun W ao cap g (ho : Own W ao cap g 5 1 (F.length + 7) (byteVals F ++ byteVals [115, 111, 117, 114, 99, 101, 32])) => (show Calls Try.prog 39 #[.slice ao (F.length + 7) cap, .int .u64 y] W (fun e w' => ∃ ao' cap' g', e = .returned (.slice ao' (F.length + 7 + d.length) cap') ∧ Own w' ao' cap' g' 5 1 (F.length + 7 + d.length) (byteVals (F7 ++ d)) ∧ (∀ k, g' = some k → g = some k ∨ W.heap.size ≤ k) ∧ Only (fun k => g = some k) W w') by
            rw [byteVals_app, hF7, ← hF7l] at ho
            rw [← hF7l]
            exact HPt.out F7 (by omega) W ao cap g ho))
          have HSc := Lib.hid (fun W => (show Src Try.prog 1 9 (.string (bs [115, 111, 117, 114, 99, 101, 32])) 7 (byteVals [115, 111, 117, 114, 99, 101, 32]) W from srcStr19 _ W))
          have HF7 := Lib.hid (And.intro hF7 hF7l)
          have hbd : F.length + 100 ≤ 1000000 := by omega
          obtain ⟨dl, hdl⟩ : ∃ dl, d.length = dl := ⟨_, rfl⟩
          rw [hdl] at HPt7 hd
          have Hdl := Lib.hid hdl
          clear hpc hpb hv hsl hFl hF7 hF7l HPt hdl
          obtain ⟨m, hm⟩ : ∃ m, F.length = m := ⟨_, rfl⟩
          rw [hm] at Ho HPt7 hbd ⊢
          have Hm := Lib.hid hm
          clear hm
          have c4s := HC4.out ws HBs.out
          go_wp2_with (first
            | (at_builtin; refine wpList_app rfl (.tmp 33) _ 22 9 rfl hE Ho.out rfl rfl (HSc.out _) (by simp [maxLen]; omega) (by omega) ?_; intro ao5 cap5 g5 w5 ho5 hg5 hon5; have H5 := Lib.hid ho5; have Hg5 := Lib.hid hg5; have O5 := Lib.hid hon5; clear ho5 hg5 hon5)
            | (go_at_call 39; (with_reducible refine (HPt7.out _ _ _ _ H5.out).mono ?_); rintro e w6 ⟨ao6, cap6, g6, rfl, hx, hy, hz⟩; have H6 := Lib.hid hx; have Hg6 := Lib.hid hy; have O6 := Lib.hid hz; clear hx hy hz)
            | (at_builtin; refine wpList_app rfl (.tmp 37) (.tmp 38) 22 22 rfl hE (H6.out.ext (ext_alloc _ _)) rfl rfl (srcOne Try.underlying22 _ _ _ _ rfl) (by simp [maxLen]; omega) (by omega) ?_; intro ao7 cap7 g7 w7 ho7 hg7 hon7; have H7 := Lib.hid ho7; have Hg7 := Lib.hid hg7; have O7 := Lib.hid hon7; clear ho7 hg7 hon7))
          go_roundw
          case rel =>
            have z0 := HBs.out.size
            have z5 := O5.out.size
            have z6 := O6.out.size
            have g5w : ∀ q, g5 = some q → W0.heap.size ≤ q := fun q hq => by
              rcases Hg5.out with h | h
              · exact Hg.out q (h ▸ hq)
              · rw [h] at hq; cases hq; omega
            have g6w : ∀ q, g6 = some q → W0.heap.size ≤ q := fun q hq => by
              rcases Hg6.out q hq with h | h
              · exact g5w q h
              · omega
            have b5 : Below W0.heap.size W0 w5 := HBs.out.trans (O5.out.below z0 (fun q hq e => by have := Hg.out q e; omega))
            have b6 : Below W0.heap.size W0 w6 := b5.trans (O6.out.below b5.size (fun q hq e => by have := g5w q e; omega))
            have hlen : (sF P l (a + 1)).length = m + 7 + dl + 1 := by
              rw [HNx.out, HF7.out.1, List.length_append, List.length_append, HF7.out.2, Hm.out, Hdl.out]; rfl
            refine ⟨a + 1, ao7, cap7, g7, by omega, by go_num, by rw [hlen], ?_, fun q hq => ?_, (b6.alloc b6.size _).trans (O7.out.below (by have := b6.size; simp; omega) (fun q hq e => by have := g6w q e; omega))⟩
            · rw [hlen, HNx.out, HF7.out.1, ← byteVals_app]; exact H7.out
            · rcases Hg7.out with h | h
              · exact g6w q (h ▸ hq)
              · rw [h] at hq; cases hq; have := b6.size; simp; omega
          case measure => simp [intOf]; omega
        · obtain rfl : a = l.length := by omega
          have hT : sF P l l.length = PJ := by unfold sF; rw [List.take_length]; exact Hpr.out.symm
          rw [hT] at Ho ⊢
          go_wp2_with fail
          go_ret2
          exact ⟨ao, cap, g, rfl, Ho.out, B0.out.trans (HBs.out.mono B0.out.size)⟩
end Go.Proofs.Ytmflopeedofkhaa
