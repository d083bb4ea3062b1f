/- JobTwice: the walk. -/
import Derived.Test.YtmflopeedofkhaaByAwk
import Derived.Test.YtmflopeedofkhaaJRefPrint
import Derived.Test.YtmflopeedofkhaaJConv
import Derived.Test.YtmflopeedofkhaaJobTextL
namespace Go.Proofs.Ytmflopeedofkhaa
set_option linter.unusedSimpArgs false
set_option linter.unusedVariables false
set_option maxRecDepth 100000
open Go.RowKit

theorem tmod_nat (a n : Nat) : (a : Int).tmod (n : Int) = ((a % n : Nat) : Int) := by
  rw [Int.tmod_eq_emod_of_nonneg (by omega)]; rfl
theorem printJ_len (j : JobD) (ok : JobOk j) (hk : j.kind < 3) : (printJ j).length ≤ 5000 + j.src.length * 28 := by
  rw [printJ_own, List.length_append]
  have h := src_len j.src j.src.length (fun x hx => by have := ok.src x hx; omega)
  rw [List.take_length] at h
  have h10 : (p10 j).length ≤ 5000 := by
    unfold p10 p9 p8 p7 p6
    have hw : (kindW[j.kind]!).length ≤ 10 := by
      have : j.kind = 0 ∨ j.kind = 1 ∨ j.kind = 2 := by omega
      rcases this with h | h | h <;> rw [h] <;> decide
    have h1 := rowT_len kSeed j.seed (by have := ok.seed; omega)
    have h2 := rowT_len kLen j.length (by have := ok.length; omega)
    have h3 := rowT_len kWks j.walks (by have := ok.walks; omega)
    have h9 := rowT_len kTri j.tries (by have := ok.tries; omega)
    have h10 := rowT_len kBes j.best (by have := ok.best; omega)
    have h11 := rowT_len kSha j.bsh (by have := ok.bsh; omega)
    have h12 := rowT_len kRoo j.bro (by have := ok.bro; omega)
    have h13 := rowT_len kPoo j.bpo (by have := ok.bpo; omega)
    have h14 := rowT_len kSor j.bso (by have := ok.bso; omega)
    have h5 := digits_20 j.stop (by have := ok.stop; omega)
    have h6 := digits_20 j.od (by have := ok.od; omega)
    have h7 := digits_20 j.p (by have := ok.p; omega)
    have h8 := digits_20 j.q (by have := ok.q; omega)
    simp only [kSeed, kLen, kWks, kTri, kBes, kSha, kRoo, kPoo, kSor, kWalk, kRes, kBia, List.length_append, List.length_cons, List.length_nil] at *
    omega
  omega
theorem lines_lenJ (j : JobD) : (linesJ j).length = 12 + j.src.length := by unfold linesJ ordLines ordK; simp; omega
set_option maxRecDepth 100000 in
set_option maxHeartbeats 6400000 in
theorem jobTwice_walk (j : JobD) (ok : JobOk j) (ao : Option Addr) (cap a : Nat) (ha : a < 256) (w : World) (hr : Rd w ao j.src.length (u32s j.src)) :
    Calls Try.prog 5 #[.agg (jobCs j ao cap), .int .u8 (a : Nat)] w (RetB (.bool true) w) := by
  obtain ⟨W0, hW0⟩ : ∃ W0, w.alloc (.cells (jobCs j ao cap) 30) = W0 := ⟨_, rfl⟩
  have B0 := Lib.hid (show Below w.heap.size w W0 by rw [← hW0]; exact ext_alloc w _)
  have R0 := Lib.hid (show W0.heap[w.heap.size]? = some (.cells (jobCs j ao cap) 30 (0, 0)) by rw [← hW0]; exact heap_alloc_new _ _)
  have HS0 := Lib.hid (hr.ext B0.out)
  have HMy := Lib.hid (fun W (hB : Below W0.heap.size W0 W) => rmay_any j ok ao cap W)
  have HA := Lib.hid (fun W => awake19_any W)
  have HW0 := Lib.hid hW0
  have HIj := Lib.hid (jb_info19 j ao cap)
  obtain ⟨jb, hjb⟩ : ∃ jb, jb = w.heap.size := ⟨_, rfl⟩
  have Hjb := Lib.hid hjb
  rw [← hjb] at R0
  have c4 : W0.cell? ⟨jb, 4, none⟩ = some (.slice ao j.src.length cap) := (cell_of_row _ _ _ _ _ _ R0.out).trans rfl
  clear hW0 hjb
  by_cases h1 : 100 < j.src.length
  · have d1 : decide ((100 : Int) < (j.src.length : Int)) = true := decide_eq_true (by omega)
    have d1' : decide (100 < j.src.length) = true := decide_eq_true h1
    generalize j.src.length = n at c4 d1 d1'
    clear h1 hr
    generalize jobCs j ao cap = jc at HW0 R0 HIj ⊢
    go_enter Try.func5, Try.ntmps5
    go_upto_region 1 with fail
    rw [HW0.out, ← Hjb.out]
    go_wp2_with (first
      | (refine wpList_load_rowg rfl 30 _ rfl jb rfl 30 _ (0, 0) _ R0.out Try.underlying30 rfl HIj.out ?_)
      | fail "no"
      | (go_at_call 8; (with_reducible refine (HA.out _).mono ?_); rintro e w8 ⟨rfl, hx⟩; have B8 := Lib.hid hx; clear hx))
    go_ret
    exact ⟨rfl, B0.out.trans (B8.out.mono B0.out.size)⟩
  have d1 : decide ((100 : Int) < (j.src.length : Int)) = false := decide_eq_false (by omega)
  have d1' : decide (100 < j.src.length) = false := decide_eq_false h1
  have HM := Lib.hid (fun W (hB : Below W0.heap.size W0 W) => HMy.out W hB (by omega) (HS0.out.ext hB))
  by_cases hm : mayJ j = true
  case neg =>
    rw [show mayJ j = false by simpa using hm] at HM
    generalize j.src.length = n at c4 d1 d1'
    clear h1 hr hm HMy
    generalize jobCs j ao cap = jc at *
    go_enter Try.func5, Try.ntmps5
    go_upto_region 1 with fail
    rw [HW0.out, ← Hjb.out]
    go_wp2_with (first
      | (refine wpList_load_rowg rfl 30 _ rfl jb rfl 30 _ (0, 0) _ R0.out Try.underlying30 rfl HIj.out ?_)
      | (go_at_call 13; (with_reducible refine (HM.out _ (Below.refl _ _)).mono ?_); rintro e w7 ⟨rfl, hx⟩; have B7 := Lib.hid (B0.out.trans (hx.mono B0.out.size)); clear hx)
      | (go_at_call 8; (with_reducible refine (HA.out _).mono ?_); rintro e w8 ⟨rfl, hx⟩; have B8 := Lib.hid hx; clear hx))
    go_ret
    exact ⟨rfl, B7.out.trans (B8.out.mono B7.out.size)⟩
  rw [hm] at HM
  have hk3 := (may_inB ok hm).1
  have HPr := Lib.hid (fun W (hB : Below W0.heap.size W0 W) => rprint19_any j ok hk3 (by omega) ao cap W (HS0.out.ext hB))
  have hpl := printJ_len j ok hk3
  have hll := lines_lenJ j
  have hpl1 := print_lines ok hm []
  rw [List.append_nil, lines_nil, List.append_nil] at hpl1
  have Hsub := Lib.hid (fun l (hl : l ∈ linesJ j) => read_twice ok hm hl)
  have HLl := Lib.hid (show ∀ l ∈ linesJ j, l.length ≤ (printJ j).length from fun l hl => by rw [← hpl1] at hl; exact lines_mem19 _ l hl)
  generalize printJ j = P at *
  obtain ⟨L, hL⟩ : ∃ L, linesJ j = L := ⟨_, rfl⟩
  rw [hL] at hll hpl1 Hsub HLl
  have HLn := Lib.hid (fun ao cap W (h : Rd W ao P.length (byteVals P)) => (show Calls Try.prog 14 #[.slice ao P.length cap] W (RetOwn 9 1 L.length (strCells L) W) from by rw [← hpl1]; exact rlines_any P (by omega) ao cap W h))
  obtain ⟨i, hi⟩ : ∃ i, a % L.length = i := ⟨_, rfl⟩
  have hiL : i < L.length := by rw [← hi]; exact Nat.mod_lt _ (by omega)
  have htm := tmod_nat a L.length
  rw [hi] at htm
  obtain ⟨l, hl⟩ : ∃ l, L[i] = l := ⟨_, rfl⟩
  have hlm : l ∈ L := hl ▸ List.getElem_mem hiL
  have hRT := Hsub.out l hlm
  have hlle := HLl.out l hlm
  have hadd := str_add P l (by omega)
  have HCv1 := Lib.hid (fun W => conv_sb19 P (by omega) W)
  have HCv2 := Lib.hid (fun W => conv_sb19 (P ++ l) (by rw [List.length_append]; omega) W)
  have HRd := Lib.hid (fun ao cap W h hc hm => (show Calls Try.prog 9 #[.slice ao (P ++ l).length cap] W (ReadRet (zeroJ, L.length + 1, 13) W) from hRT ▸ jread_any (P ++ l) (by rw [List.length_append]; omega) ao cap W h hc hm))
  have HLi := Lib.hid (And.intro hl hiL)
  have hL12 : 12 ≤ L.length := by omega
  have hLmax : L.length ≤ 200 := by omega
  generalize j.src.length = n at c4 d1 d1'
  clear hl hlm hRT hlle Hsub HLl hpl hpl1 hL hll hr hm HMy h1 hk3 hi
  generalize P ++ l = Q at *
  generalize jobCs j ao cap = jc at *
  have hL0 : ((L.length : Int) == 0) = false := beq_eq_false_iff_ne.2 (by omega)
  have hL0' : (L.length == 0) = false := beq_eq_false_iff_ne.2 (by omega)
  have ua : IntKind.i64.wrap (a : Int) = (a : Int) := IntWalk.i64_in _ (by omega)
  have hir : (i : Int) < (L.length : Int) := by omega
  go_enter Try.func5, Try.ntmps5
  go_upto_region 1 with fail
  rw [HW0.out, ← Hjb.out]
  go_upto_region 4 with (first
    | (refine wpList_load_rowg rfl 30 _ rfl jb rfl 30 _ (0, 0) _ R0.out Try.underlying30 rfl HIj.out ?_)
    | (go_at_call 13; (with_reducible refine (HM.out _ (Below.refl _ _)).mono ?_); rintro e w1 ⟨rfl, hx⟩; have R1 := Lib.hid ((hx.block _ (blk_lt R0.out)).trans R0.out); have B1 := Lib.hid hx; clear hx)
    | (refine wpList_load_row rfl 30 _ rfl jb rfl 30 _ (0, 0) _ R1.out Try.underlying30 rfl HIj.out ?_)
    | (go_at_call 15; (with_reducible refine (HPr.out _ B1.out).mono ?_); rintro e w2 ⟨rfl, hx⟩; have B2 := Lib.hid ((B0.out.trans (B1.out.mono B0.out.size)).trans (hx.mono (Nat.le_trans B0.out.size B1.out.size))); clear hx))
  obtain ⟨cp3, w3, hcv1, hB3, hr3, hc3, hm3⟩ := HCv1.out w2
  have B3 := Lib.hid (B2.out.trans (hB3.mono B2.out.size))
  have Hr3 := Lib.hid hr3
  clear hB3 hr3 hc3 hm3
  go_upto_region 5 with (go_at_call 14; (with_reducible refine (HLn.out _ _ _ Hr3.out).mono ?_); rintro e w4 ⟨la, lc, lg, rfl, hx, hy, hz⟩; have Lo := Lib.hid hx; have B4 := Lib.hid (B3.out.trans (hz.mono B3.out.size)); clear hx hy hz)
  obtain ⟨lb, rfl, rfl, hlb⟩ : ∃ b, la = some ⟨b, 0, none⟩ ∧ lg = some b ∧ b < w4.heap.size := by
    obtain ⟨b, h1, h2, h3⟩ := Lo.out.pos (by omega)
    exact ⟨b, h2, h1, h3⟩
  have cl : w4.cell? ⟨lb, i, none⟩ = some (.string (bs l)) := by
    have h := Lo.out.cell i (by have := HLi.out.2; omega)
    rw [h]
    simp only [strCells, List.getElem?_map, List.getElem?_eq_getElem HLi.out.2, Option.map_some, HLi.out.1]
  obtain ⟨cp5, w5, hcv2, hB5, hr5, hc5, hm5⟩ := HCv2.out w4
  have B5 := Lib.hid (B4.out.trans (hB5.mono B4.out.size))
  have Hr5 := Lib.hid hr5
  have Hc5 := Lib.hid (And.intro hc5 hm5)
  clear hB5 hr5 hc5 hm5
  go_upto_region 6 with (first
    | (go_at_call 9; (with_reducible refine (HRd.out _ _ _ Hr5.out Hc5.out.1 Hc5.out.2).mono ?_); rintro e w6 ⟨so, sc, rfl, hx, hy⟩; have B6 := Lib.hid (B5.out.trans (hy.mono B5.out.size)); clear hx hy)
    | (refine wpList_store_row rfl 30 (.tmp 7) _ rfl rfl rfl (heap_alloc_new _ _) rfl (jb_info19 _ _ _) (jb_one19 _ _ _) ?_; intro w7 h7 o7; have hB7 : Below w6.heap.size w6 w7 := (ext_alloc _ _).trans (o7.below (by simp) (fun k hk e => by omega)); have z4 : w7.cell? ⟨w6.heap.size, 4, none⟩ = some (.slice so 0 sc) := (cell_of_row _ _ _ _ _ _ h7).trans rfl; have B7 := Lib.hid (B6.out.trans (hB7.mono B6.out.size)); clear h7 o7 hB7))
  have un : IntKind.i64.wrap ((L.length : Int) + 1) = (L.length : Int) + 1 := IntWalk.i64_in _ (by omega)
  go_wp2_with (go_at_call 8; (with_reducible refine (HA.out _).mono ?_); rintro e w8 ⟨rfl, hx⟩; have B8 := Lib.hid hx; clear hx)
  go_ret
  exact ⟨rfl, B7.out.trans (B8.out.mono B7.out.size)⟩
end Go.Proofs.Ytmflopeedofkhaa
