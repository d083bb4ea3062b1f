/- palmerref19.Print of a job that may be. -/
import Derived.Test.YtmflopeedofkhaaJobTextP
import Derived.Test.YtmflopeedofkhaaJRefRow
import Derived.Test.YtmflopeedofkhaaByJobP
import Derived.Test.YtmflopeedofkhaaU32s
namespace Go.Proofs.Ytmflopeedofkhaa
set_option linter.unusedSimpArgs false
set_option linter.unusedVariables false
set_option maxRecDepth 100000
open Go.RowKit

def kLen : W8 := [108, 101, 110, 103, 116, 104]
def kWks : W8 := [119, 97, 108, 107, 115]
def kRes : W8 := [114, 101, 115, 116, 97, 114, 116]
def kBia : W8 := [98, 105, 97, 115]
def kTri : W8 := [116, 114, 105, 101, 115]
def kBes : W8 := [98, 101, 115, 116]
def kSha : W8 := [115, 104, 97, 114, 100]
def kRoo : W8 := [114, 111, 111, 109]
def kPoo : W8 := [112, 111, 111, 108]
def kSor : W8 := [115, 111, 114, 116]
def p6 (j : JobD) : W8 := kWalk ++ [32] ++ kindW[j.kind]! ++ [10] ++ rowT kSeed j.seed ++ rowT kLen j.length ++ rowT kWks j.walks
def p7 (j : JobD) : W8 := p6 j ++ (kRes ++ [32]) ++ digits j.stop ++ [32] ++ digits j.od ++ [10]
def p8 (j : JobD) : W8 := p7 j ++ (kBia ++ [32]) ++ digits j.p ++ [32] ++ digits j.q ++ [10]
def p9 (j : JobD) : W8 := p8 j ++ rowT kTri j.tries ++ rowT kBes j.best
def p10 (j : JobD) : W8 := p9 j ++ rowT kSha j.bsh ++ rowT kRoo j.bro ++ rowT kPoo j.bpo ++ rowT kSor j.bso
theorem p10_own (j : JobD) : (ordLines j).flatMap (fun l => l ++ [10]) = p10 j := by
  simp only [ordLines, ordK, List.map_cons, List.map_nil, List.flatMap_cons, List.flatMap_nil, List.append_nil]
  have e1 : argsJ j kWalk = [kindW[j.kind]!] := by unfold argsJ; rw [if_pos rfl]
  have e2 : argsJ j kSeed = [digits j.seed] := by unfold argsJ; rw [if_neg (by decide), if_pos rfl]
  have e3 : argsJ j [108, 101, 110, 103, 116, 104] = [digits j.length] := by rfl
  have e4 : argsJ j [119, 97, 108, 107, 115] = [digits j.walks] := by rfl
  have e5 : argsJ j [114, 101, 115, 116, 97, 114, 116] = [digits j.stop, digits j.od] := by rfl
  have e6 : argsJ j [98, 105, 97, 115] = [digits j.p, digits j.q] := by rfl
  have e7 : argsJ j [116, 114, 105, 101, 115] = [digits j.tries] := by rfl
  have e8 : argsJ j [98, 101, 115, 116] = [digits j.best] := by rfl
  have e9 : argsJ j [115, 104, 97, 114, 100] = [digits j.bsh] := by rfl
  have e10 : argsJ j [114, 111, 111, 109] = [digits j.bro] := by rfl
  have e11 : argsJ j [112, 111, 111, 108] = [digits j.bpo] := by rfl
  have e12 : argsJ j [115, 111, 114, 116] = [digits j.bso] := by rfl
  rw [e1, e2, e3, e4, e5, e6, e7, e8, e9, e10, e11, e12]
  simp [p10, p9, p8, p7, p6, rowT, lineB, kLen, kWks, kRes, kBia, kTri, kBes, kSha, kRoo, kPoo, kSor]
theorem printJ_own (j : JobD) : printJ j = p10 j ++ j.src.flatMap (fun v => rowT kSource v) := by
  unfold printJ linesJ
  rw [List.flatMap_append, p10_own, List.flatMap_map]
  congr 2
  funext v
  simp [srcLine, lineB, rowT]
theorem rowT_len (k : W8) (n : Nat) (h : n < 18446744073709551616) : (rowT k n).length ≤ k.length + 22 := by
  have := digits_20 n h
  simp [rowT]; omega
theorem blk_lt19 {w : World} {b : Nat} {o : Obj} (h : w.heap[b]? = some o) : b < w.heap.size := (Array.getElem?_eq_some_iff.1 h).1
def spI (W0 : World) (P : W8) (l : List Nat) (v i : Value) (wr : World) : Prop := ∃ a : Nat, a ≤ l.length ∧ i = .int .i64 (a : Nat) ∧ v = .string (bs (P ++ (l.take a).flatMap (fun v => rowT kSource v))) ∧ Below W0.heap.size W0 wr
theorem src_len (l : List Nat) (a : Nat) (h : ∀ x ∈ l, x < 18446744073709551616) : ((l.take a).flatMap (fun v => rowT kSource v)).length ≤ l.length * 28 := by
  have h2 : ∀ (l : List Nat), (∀ x ∈ l, x < 18446744073709551616) → (l.flatMap (fun v => rowT kSource v)).length ≤ l.length * 28 := by
    intro l
    induction l with
    | nil => intro _; simp
    | cons x r ih =>
      intro h
      have h1 := rowT_len kSource x (h x (by simp))
      have h2 := ih (fun y hy => h y (by simp [hy]))
      have : kSource.length = 6 := rfl
      simp only [List.flatMap_cons, List.length_append, List.length_cons]
      omega
  have h3 := h2 (l.take a) (fun x hx => h x (List.mem_of_mem_take hx))
  have : (l.take a).length ≤ l.length := by rw [List.length_take]; omega
  have := Nat.mul_le_mul_right 28 this
  omega
set_option maxRecDepth 100000 in
set_option maxHeartbeats 12800000 in
theorem rprint19_any (j : JobD) (ok : JobOk j) (hk : j.kind < 3) (hs : j.src.length ≤ 1000) (so : Option Addr) (sc : Nat) (w : World) (hrd : Rd w so j.src.length (u32s j.src)) :
    Calls Try.prog 15 #[.agg (jobCs j so sc)] w (RetB (.string (bs (printJ j))) w) := by
  obtain ⟨W0, hW0⟩ : ∃ W0, w.alloc (.cells (jobCs j so sc) 30) = W0 := ⟨_, rfl⟩
  have B0 := Lib.hid (show Below w.heap.size w W0 by rw [← hW0]; exact ext_alloc w _)
  have R0 : W0.heap[w.heap.size]? = some (.cells (jobCs j so sc) 30 (0, 0)) := by rw [← hW0]; exact heap_alloc_new _ _
  obtain ⟨jb, hjb⟩ : ∃ jb, jb = w.heap.size := ⟨_, rfl⟩
  rw [← hjb] at R0
  have HC := Lib.hid (show ∀ W, Below W0.heap.size W0 W → ∀ i v, (jobCs j so sc)[i]? = some v → W.cell? ⟨jb, i, none⟩ = some v from fun W hB i v h => ((bcell hB).1 _ _ (blk_lt19 R0)).trans ((cell_of_row _ _ _ _ _ _ R0).trans h))
  have Hrd := Lib.hid (hrd.ext B0.out)
  have HW0 := Lib.hid hW0
  have Hjb := Lib.hid hjb
  have HJ := Lib.hid ok
  have Hpr := Lib.hid (printJ_own j)
  generalize printJ j = PJ at *
  clear hW0 hrd R0 hjb
  have k0 := HC.out W0 (Below.refl _ _) 0 (.int .u8 (j.kind : Nat)) rfl
  generalize jobCs j so sc = jc at HW0 ⊢
  go_enter Try.func15, Try.ntmps15
  go_upto_region 1 with fail
  rw [HW0.out, ← Hjb.out]
  go_upto_if 8 with fail
  go_cut [3] (fun v wx => v = .string (bs (if j.kind = 1 then kindW[1]! else kindW[0]!)) ∧ wx = W0)
  case first =>
    by_cases h1 : j.kind = 1
    · have y1 : ((j.kind : Int) == 1) = true := by rw [h1]; rfl
      go_wp2_with fail
      go_meet
      exact ⟨by rw [if_pos h1]; rfl, rfl⟩
    · have y1 : ((j.kind : Int) == 1) = false := beq_eq_false_iff_ne.2 (by omega)
      have y1' : (j.kind == 1) = false := beq_eq_false_iff_ne.2 h1
      go_wp2_with fail
      go_meet
      exact ⟨by rw [if_neg h1]; rfl, rfl⟩
  case rest =>
    obtain ⟨rfl, hwx⟩ := hcut
    rw [hwx]
    clear hwx
    go_upto_if 11 with fail
    go_cut [3] (fun v wx => v = .string (bs kindW[j.kind]!) ∧ wx = W0)
    case first =>
      by_cases h1 : j.kind = 2
      · have y1 : ((j.kind : Int) == 2) = true := by rw [h1]; rfl
        go_wp2_with fail
        go_meet
        exact ⟨by rw [h1]; rfl, rfl⟩
      · have y1 : ((j.kind : Int) == 2) = false := beq_eq_false_iff_ne.2 (by omega)
        have y1' : (j.kind == 2) = false := beq_eq_false_iff_ne.2 h1
        have HKk := Lib.hid (show (if j.kind = 1 then kindW[1]! else kindW[0]!) = kindW[j.kind]! by
          have : j.kind = 0 ∨ j.kind = 1 := by omega
          rcases this with h | h <;> rw [h] <;> rfl)
        rw [HKk.out]
        go_wp2_with fail
        go_meet
        exact ⟨rfl, rfl⟩
    case rest =>
      obtain ⟨rfl, hwx⟩ := hcut
      rw [hwx]
      clear hwx
      have HKl := Lib.hid (show (kindW[j.kind]!).length ≤ 10 by
        have : j.kind = 0 ∨ j.kind = 1 ∨ j.kind = 2 := by omega
        rcases this with h | h | h <;> rw [h] <;> decide)
      obtain ⟨kw, hkw⟩ : ∃ kw, kindW[j.kind]! = kw := ⟨_, rfl⟩
      rw [hkw] at HKl ⊢
      have Hkw := Lib.hid hkw
      clear hkw k0
      have l10 : ([10] : W8).length = 1 := rfl
      have l32 : ([32] : W8).length = 1 := rfl
      have HB5 := Lib.hid (Below.refl W0.heap.size W0)
      obtain ⟨P6, hP6⟩ : ∃ P, p6 j = P := ⟨_, rfl⟩
      have HP6 := Lib.hid hP6
      obtain ⟨P7, hP7⟩ : ∃ P, p7 j = P := ⟨_, rfl⟩
      have HP7 := Lib.hid hP7
      obtain ⟨P8, hP8⟩ : ∃ P, p8 j = P := ⟨_, rfl⟩
      have HP8 := Lib.hid hP8
      obtain ⟨P9, hP9⟩ : ∃ P, p9 j = P := ⟨_, rfl⟩
      have HP9 := Lib.hid hP9
      obtain ⟨P10, hP10⟩ : ∃ P, p10 j = P := ⟨_, rfl⟩
      have HP10 := Lib.hid hP10
      clear hP6 hP7 hP8 hP9 hP10
      have Hbd : Hid (P6.length ≤ 1000 ∧ P7.length ≤ 2000 ∧ P8.length ≤ 3000 ∧ P9.length ≤ 4000 ∧ P10.length ≤ 5000) := by
        refine Lib.hid ?_
        rw [← HP10.out, ← HP9.out, ← HP8.out, ← HP7.out, ← HP6.out]
        unfold p10 p9 p8 p7 p6
        rw [Hkw.out]
        have h1 := rowT_len kSeed j.seed (by have := HJ.out.seed; omega)
        have h2 := rowT_len kLen j.length (by have := HJ.out.length; omega)
        have h3 := rowT_len kWks j.walks (by have := HJ.out.walks; omega)
        have h9 := rowT_len kTri j.tries (by have := HJ.out.tries; omega)
        have h10 := rowT_len kBes j.best (by have := HJ.out.best; omega)
        have h11 := rowT_len kSha j.bsh (by have := HJ.out.bsh; omega)
        have h12 := rowT_len kRoo j.bro (by have := HJ.out.bro; omega)
        have h13 := rowT_len kPoo j.bpo (by have := HJ.out.bpo; omega)
        have h14 := rowT_len kSor j.bso (by have := HJ.out.bso; omega)
        have h5 := digits_20 j.stop (by have := HJ.out.stop; omega)
        have h6 := digits_20 j.od (by have := HJ.out.od; omega)
        have h7 := digits_20 j.p (by have := HJ.out.p; omega)
        have h8 := digits_20 j.q (by have := HJ.out.q; omega)
        have hw := HKl.out
        simp only [kSeed, kLen, kWks, kTri, kBes, kSha, kRoo, kPoo, kSor, kWalk, kRes, kBia, List.length_append, List.length_cons, List.length_nil] at *
        omega
      go_upto_region 6 with fail
      go_cut [4] (fun v wx => v = .string (bs P6) ∧ Below W0.heap.size W0 wx)
      case first =>
        have hr1 := rowT_len kSeed j.seed (by have := HJ.out.seed; omega)
        have Rw1 := Lib.hid (fun W => (show Calls Try.prog 34 #[.string ⟨#[115, 101, 101, 100]⟩, .int .u64 (j.seed : Nat)] W (RetB (.string (bs (rowT kSeed j.seed))) W) from rrow_any kSeed (by decide) j.seed (by have := HJ.out.seed; omega) W))
        have hkl1 : kSeed.length ≤ 10 := by decide
        have hr2 := rowT_len kLen j.length (by have := HJ.out.length; omega)
        have Rw2 := Lib.hid (fun W => (show Calls Try.prog 34 #[.string ⟨#[108, 101, 110, 103, 116, 104]⟩, .int .u64 (j.length : Nat)] W (RetB (.string (bs (rowT kLen j.length))) W) from rrow_any kLen (by decide) j.length (by have := HJ.out.length; omega) W))
        have hkl2 : kLen.length ≤ 10 := by decide
        have u2 : IntKind.u64.wrap (j.length : Int) = (j.length : Int) := IntWalk.u64_in _ (by have := HJ.out.length; omega)
        have hr3 := rowT_len kWks j.walks (by have := HJ.out.walks; omega)
        have Rw3 := Lib.hid (fun W => (show Calls Try.prog 34 #[.string ⟨#[119, 97, 108, 107, 115]⟩, .int .u64 (j.walks : Nat)] W (RetB (.string (bs (rowT kWks j.walks))) W) from rrow_any kWks (by decide) j.walks (by have := HJ.out.walks; omega) W))
        have hkl3 : kWks.length ≤ 10 := by decide
        have u3 : IntKind.u64.wrap (j.walks : Int) = (j.walks : Int) := IntWalk.u64_in _ (by have := HJ.out.walks; omega)
        have hbd := Hbd.out
        have hkwl := HKl.out
        have lcc : ([119, 97, 108, 107, 32] : W8).length = 5 := rfl
        obtain ⟨T6_0, hT6_0⟩ : ∃ T, ([119, 97, 108, 107, 32] : W8) ++ (kw) = T := ⟨_, rfl⟩
        have lT6_0 : T6_0.length = ([119, 97, 108, 107, 32] : W8).length + (kw : W8).length := by rw [← hT6_0, List.length_append]
        have aT6_0 := str_add ([119, 97, 108, 107, 32]) (kw) (by omega)
        rw [hT6_0] at aT6_0
        obtain ⟨T6_1, hT6_1⟩ : ∃ T, (T6_0 : W8) ++ ([10]) = T := ⟨_, rfl⟩
        have lT6_1 : T6_1.length = (T6_0 : W8).length + ([10] : W8).length := by rw [← hT6_1, List.length_append]
        have aT6_1 := str_add (T6_0) ([10]) (by omega)
        rw [hT6_1] at aT6_1
        obtain ⟨T6_2, hT6_2⟩ : ∃ T, (T6_1 : W8) ++ (rowT kSeed j.seed) = T := ⟨_, rfl⟩
        have lT6_2 : T6_2.length = (T6_1 : W8).length + (rowT kSeed j.seed : W8).length := by rw [← hT6_2, List.length_append]
        have aT6_2 := str_add (T6_1) (rowT kSeed j.seed) (by omega)
        rw [hT6_2] at aT6_2
        obtain ⟨T6_3, hT6_3⟩ : ∃ T, (T6_2 : W8) ++ (rowT kLen j.length) = T := ⟨_, rfl⟩
        have lT6_3 : T6_3.length = (T6_2 : W8).length + (rowT kLen j.length : W8).length := by rw [← hT6_3, List.length_append]
        have aT6_3 := str_add (T6_2) (rowT kLen j.length) (by omega)
        rw [hT6_3] at aT6_3
        obtain ⟨T6_4, hT6_4⟩ : ∃ T, (T6_3 : W8) ++ (rowT kWks j.walks) = T := ⟨_, rfl⟩
        have lT6_4 : T6_4.length = (T6_3 : W8).length + (rowT kWks j.walks : W8).length := by rw [← hT6_4, List.length_append]
        have aT6_4 := str_add (T6_3) (rowT kWks j.walks) (by omega)
        rw [hT6_4] at aT6_4
        have hend : T6_4 = P6 := by rw [← HP6.out, ← hT6_4, ← hT6_3, ← hT6_2, ← hT6_1, ← hT6_0]; unfold p6; rw [Hkw.out]; rfl
        try simp only [show bs [10] = ⟨#[10]⟩ from rfl, show bs [32] = ⟨#[32]⟩ from rfl, show bs [119, 97, 108, 107, 32] = ⟨#[119, 97, 108, 107, 32]⟩ from rfl] at aT6_0 aT6_1 aT6_2 aT6_3 aT6_4
        rw [hend] at aT6_4
        generalize rowT kSeed j.seed = y1 at *
        generalize rowT kLen j.length = y2 at *
        generalize rowT kWks j.walks = y3 at *
        clear hend hT6_0 lT6_0 hT6_1 lT6_1 hT6_2 lT6_2 hT6_3 lT6_3 hT6_4 lT6_4 hbd hkwl hr1 hr2 hr3 hkl1 hkl2 hkl3 lcc
        have HK := Lib.hid (show ∀ W W', (W.cell? ⟨jb, 1, none⟩ = some (.int .u64 (j.seed : Nat)) ∧ W.cell? ⟨jb, 2, none⟩ = some (.int .u32 (j.length : Nat)) ∧ W.cell? ⟨jb, 3, none⟩ = some (.int .u32 (j.walks : Nat)) ∧ Below W0.heap.size W0 W) → Below W.heap.size W W' → (W'.cell? ⟨jb, 1, none⟩ = some (.int .u64 (j.seed : Nat)) ∧ W'.cell? ⟨jb, 2, none⟩ = some (.int .u32 (j.length : Nat)) ∧ W'.cell? ⟨jb, 3, none⟩ = some (.int .u32 (j.walks : Nat)) ∧ Below W0.heap.size W0 W') from fun W W' h hB => by
          have hb := h.2.2.2
          have hb' := hb.trans (hB.mono hb.size)
          exact ⟨HC.out W' hb' 1 _ rfl, HC.out W' hb' 2 _ rfl, HC.out W' hb' 3 _ rfl, hb'⟩)
        have HS0 := Lib.hid (show (fun W : World => W.cell? ⟨jb, 1, none⟩ = some (.int .u64 (j.seed : Nat)) ∧ W.cell? ⟨jb, 2, none⟩ = some (.int .u32 (j.length : Nat)) ∧ W.cell? ⟨jb, 3, none⟩ = some (.int .u32 (j.walks : Nat)) ∧ Below W0.heap.size W0 W) W0.drew from ⟨HC.out _ (HB5.out.trans ((ext_drew W0).mono HB5.out.size)) 1 _ rfl, HC.out _ (HB5.out.trans ((ext_drew W0).mono HB5.out.size)) 2 _ rfl, HC.out _ (HB5.out.trans ((ext_drew W0).mono HB5.out.size)) 3 _ rfl, HB5.out.trans ((ext_drew W0).mono HB5.out.size)⟩)
        go_region_held3 (fun W => W.cell? ⟨jb, 1, none⟩ = some (.int .u64 (j.seed : Nat)) ∧ W.cell? ⟨jb, 2, none⟩ = some (.int .u32 (j.length : Nat)) ∧ W.cell? ⟨jb, 3, none⟩ = some (.int .u32 (j.walks : Nat)) ∧ Below W0.heap.size W0 W)
          (first | exact HS9.out | exact HS0.out)
          (first
            | (go_at_call 34; (with_reducible refine (Rw1.out _).mono ?_); rintro e w9 ⟨rfl, hB9⟩; have HS9 := Lib.hid (HK.out _ _ (by assumption) hB9); clear hB9)
            | (go_at_call 34; (with_reducible refine (Rw2.out _).mono ?_); rintro e w9 ⟨rfl, hB9⟩; have HS9 := Lib.hid (HK.out _ _ (by assumption) hB9); clear hB9)
            | (go_at_call 34; (with_reducible refine (Rw3.out _).mono ?_); rintro e w9 ⟨rfl, hB9⟩; have HS9 := Lib.hid (HK.out _ _ (by assumption) hB9); clear hB9)
            | fail "no arm")
        all_goals go_wp2_with fail
        all_goals go_meet
        all_goals exact ⟨rfl, HS9.out.2.2.2⟩
      case rest =>
        obtain ⟨rfl, hB6⟩ := hcut
        have HB6 := Lib.hid hB6
        clear hB6
        go_upto_region 7 with fail
        go_cut [4] (fun v wx => v = .string (bs P7) ∧ Below W0.heap.size W0 wx)
        case first =>
          have hr5 := digits_20 j.stop (by have := HJ.out.stop; omega)
          have Rw5 := Lib.hid (fun W => rput_any j.stop (by have := HJ.out.stop; omega) W)
          have u5 : IntKind.u64.wrap (j.stop : Int) = (j.stop : Int) := IntWalk.u64_in _ (by have := HJ.out.stop; omega)
          have hr6 := digits_20 j.od (by have := HJ.out.od; omega)
          have Rw6 := Lib.hid (fun W => rput_any j.od (by have := HJ.out.od; omega) W)
          have u6 : IntKind.u64.wrap (j.od : Int) = (j.od : Int) := IntWalk.u64_in _ (by have := HJ.out.od; omega)
          have hbd := Hbd.out
          have hkwl := HKl.out
          have lcc : ([114, 101, 115, 116, 97, 114, 116, 32] : W8).length = 8 := rfl
          obtain ⟨T7_0, hT7_0⟩ : ∃ T, (P6 : W8) ++ ([114, 101, 115, 116, 97, 114, 116, 32]) = T := ⟨_, rfl⟩
          have lT7_0 : T7_0.length = (P6 : W8).length + ([114, 101, 115, 116, 97, 114, 116, 32] : W8).length := by rw [← hT7_0, List.length_append]
          have aT7_0 := str_add (P6) ([114, 101, 115, 116, 97, 114, 116, 32]) (by omega)
          rw [hT7_0] at aT7_0
          obtain ⟨T7_1, hT7_1⟩ : ∃ T, (T7_0 : W8) ++ (digits j.stop) = T := ⟨_, rfl⟩
          have lT7_1 : T7_1.length = (T7_0 : W8).length + (digits j.stop : W8).length := by rw [← hT7_1, List.length_append]
          have aT7_1 := str_add (T7_0) (digits j.stop) (by omega)
          rw [hT7_1] at aT7_1
          obtain ⟨T7_2, hT7_2⟩ : ∃ T, (T7_1 : W8) ++ ([32]) = T := ⟨_, rfl⟩
          have lT7_2 : T7_2.length = (T7_1 : W8).length + ([32] : W8).length := by rw [← hT7_2, List.length_append]
          have aT7_2 := str_add (T7_1) ([32]) (by omega)
          rw [hT7_2] at aT7_2
          obtain ⟨T7_3, hT7_3⟩ : ∃ T, (T7_2 : W8) ++ (digits j.od) = T := ⟨_, rfl⟩
          have lT7_3 : T7_3.length = (T7_2 : W8).length + (digits j.od : W8).length := by rw [← hT7_3, List.length_append]
          have aT7_3 := str_add (T7_2) (digits j.od) (by omega)
          rw [hT7_3] at aT7_3
          obtain ⟨T7_4, hT7_4⟩ : ∃ T, (T7_3 : W8) ++ ([10]) = T := ⟨_, rfl⟩
          have lT7_4 : T7_4.length = (T7_3 : W8).length + ([10] : W8).length := by rw [← hT7_4, List.length_append]
          have aT7_4 := str_add (T7_3) ([10]) (by omega)
          rw [hT7_4] at aT7_4
          have hend : T7_4 = P7 := by rw [← HP7.out, ← hT7_4, ← hT7_3, ← hT7_2, ← hT7_1, ← hT7_0]; unfold p7; rw [HP6.out] <;> rfl
          try simp only [show bs [10] = ⟨#[10]⟩ from rfl, show bs [32] = ⟨#[32]⟩ from rfl, show bs [114, 101, 115, 116, 97, 114, 116, 32] = ⟨#[114, 101, 115, 116, 97, 114, 116, 32]⟩ from rfl] at aT7_0 aT7_1 aT7_2 aT7_3 aT7_4
          rw [hend] at aT7_4
          generalize digits j.stop = y5 at *
          generalize digits j.od = y6 at *
          clear hend hT7_0 lT7_0 hT7_1 lT7_1 hT7_2 lT7_2 hT7_3 lT7_3 hT7_4 lT7_4 hbd hkwl hr5 hr6  lcc
          have HK := Lib.hid (show ∀ W W', (W.cell? ⟨jb, 5, none⟩ = some (.int .u32 (j.stop : Nat)) ∧ W.cell? ⟨jb, 6, none⟩ = some (.int .u32 (j.od : Nat)) ∧ Below W0.heap.size W0 W) → Below W.heap.size W W' → (W'.cell? ⟨jb, 5, none⟩ = some (.int .u32 (j.stop : Nat)) ∧ W'.cell? ⟨jb, 6, none⟩ = some (.int .u32 (j.od : Nat)) ∧ Below W0.heap.size W0 W') from fun W W' h hB => by
            have hb := h.2.2
            have hb' := hb.trans (hB.mono hb.size)
            exact ⟨HC.out W' hb' 5 _ rfl, HC.out W' hb' 6 _ rfl, hb'⟩)
          have HS0 := Lib.hid (show (fun W : World => W.cell? ⟨jb, 5, none⟩ = some (.int .u32 (j.stop : Nat)) ∧ W.cell? ⟨jb, 6, none⟩ = some (.int .u32 (j.od : Nat)) ∧ Below W0.heap.size W0 W) wc.drew from ⟨HC.out _ (HB6.out.trans ((ext_drew wc).mono HB6.out.size)) 5 _ rfl, HC.out _ (HB6.out.trans ((ext_drew wc).mono HB6.out.size)) 6 _ rfl, HB6.out.trans ((ext_drew wc).mono HB6.out.size)⟩)
          go_region_held3 (fun W => W.cell? ⟨jb, 5, none⟩ = some (.int .u32 (j.stop : Nat)) ∧ W.cell? ⟨jb, 6, none⟩ = some (.int .u32 (j.od : Nat)) ∧ Below W0.heap.size W0 W)
            (first | exact HS9.out | exact HS0.out)
            (first
              | (go_at_call 35; (with_reducible refine (Rw5.out _).mono ?_); rintro e w9 ⟨rfl, hB9⟩; have HS9 := Lib.hid (HK.out _ _ (by assumption) hB9); clear hB9)
              | (go_at_call 35; (with_reducible refine (Rw6.out _).mono ?_); rintro e w9 ⟨rfl, hB9⟩; have HS9 := Lib.hid (HK.out _ _ (by assumption) hB9); clear hB9)
              | fail "no arm")
          all_goals go_wp2_with fail
          all_goals go_meet
          all_goals exact ⟨rfl, HS9.out.2.2⟩
        case rest =>
          obtain ⟨rfl, hB7⟩ := hcut
          have HB7 := Lib.hid hB7
          clear hB7
          go_upto_region 8 with fail
          go_cut [4] (fun v wx => v = .string (bs P8) ∧ Below W0.heap.size W0 wx)
          case first =>
            have hr7 := digits_20 j.p (by have := HJ.out.p; omega)
            have Rw7 := Lib.hid (fun W => rput_any j.p (by have := HJ.out.p; omega) W)
            have u7 : IntKind.u64.wrap (j.p : Int) = (j.p : Int) := IntWalk.u64_in _ (by have := HJ.out.p; omega)
            have hr8 := digits_20 j.q (by have := HJ.out.q; omega)
            have Rw8 := Lib.hid (fun W => rput_any j.q (by have := HJ.out.q; omega) W)
            have u8 : IntKind.u64.wrap (j.q : Int) = (j.q : Int) := IntWalk.u64_in _ (by have := HJ.out.q; omega)
            have hbd := Hbd.out
            have hkwl := HKl.out
            have lcc : ([98, 105, 97, 115, 32] : W8).length = 5 := rfl
            obtain ⟨T8_0, hT8_0⟩ : ∃ T, (P7 : W8) ++ ([98, 105, 97, 115, 32]) = T := ⟨_, rfl⟩
            have lT8_0 : T8_0.length = (P7 : W8).length + ([98, 105, 97, 115, 32] : W8).length := by rw [← hT8_0, List.length_append]
            have aT8_0 := str_add (P7) ([98, 105, 97, 115, 32]) (by omega)
            rw [hT8_0] at aT8_0
            obtain ⟨T8_1, hT8_1⟩ : ∃ T, (T8_0 : W8) ++ (digits j.p) = T := ⟨_, rfl⟩
            have lT8_1 : T8_1.length = (T8_0 : W8).length + (digits j.p : W8).length := by rw [← hT8_1, List.length_append]
            have aT8_1 := str_add (T8_0) (digits j.p) (by omega)
            rw [hT8_1] at aT8_1
            obtain ⟨T8_2, hT8_2⟩ : ∃ T, (T8_1 : W8) ++ ([32]) = T := ⟨_, rfl⟩
            have lT8_2 : T8_2.length = (T8_1 : W8).length + ([32] : W8).length := by rw [← hT8_2, List.length_append]
            have aT8_2 := str_add (T8_1) ([32]) (by omega)
            rw [hT8_2] at aT8_2
            obtain ⟨T8_3, hT8_3⟩ : ∃ T, (T8_2 : W8) ++ (digits j.q) = T := ⟨_, rfl⟩
            have lT8_3 : T8_3.length = (T8_2 : W8).length + (digits j.q : W8).length := by rw [← hT8_3, List.length_append]
            have aT8_3 := str_add (T8_2) (digits j.q) (by omega)
            rw [hT8_3] at aT8_3
            obtain ⟨T8_4, hT8_4⟩ : ∃ T, (T8_3 : W8) ++ ([10]) = T := ⟨_, rfl⟩
            have lT8_4 : T8_4.length = (T8_3 : W8).length + ([10] : W8).length := by rw [← hT8_4, List.length_append]
            have aT8_4 := str_add (T8_3) ([10]) (by omega)
            rw [hT8_4] at aT8_4
            have hend : T8_4 = P8 := by rw [← HP8.out, ← hT8_4, ← hT8_3, ← hT8_2, ← hT8_1, ← hT8_0]; unfold p8; rw [HP7.out] <;> rfl
            try simp only [show bs [10] = ⟨#[10]⟩ from rfl, show bs [32] = ⟨#[32]⟩ from rfl, show bs [98, 105, 97, 115, 32] = ⟨#[98, 105, 97, 115, 32]⟩ from rfl] at aT8_0 aT8_1 aT8_2 aT8_3 aT8_4
            rw [hend] at aT8_4
            generalize digits j.p = y7 at *
            generalize digits j.q = y8 at *
            clear hend hT8_0 lT8_0 hT8_1 lT8_1 hT8_2 lT8_2 hT8_3 lT8_3 hT8_4 lT8_4 hbd hkwl hr7 hr8  lcc
            have HK := Lib.hid (show ∀ W W', (W.cell? ⟨jb, 7, none⟩ = some (.int .u32 (j.p : Nat)) ∧ W.cell? ⟨jb, 8, none⟩ = some (.int .u32 (j.q : Nat)) ∧ Below W0.heap.size W0 W) → Below W.heap.size W W' → (W'.cell? ⟨jb, 7, none⟩ = some (.int .u32 (j.p : Nat)) ∧ W'.cell? ⟨jb, 8, none⟩ = some (.int .u32 (j.q : Nat)) ∧ Below W0.heap.size W0 W') from fun W W' h hB => by
              have hb := h.2.2
              have hb' := hb.trans (hB.mono hb.size)
              exact ⟨HC.out W' hb' 7 _ rfl, HC.out W' hb' 8 _ rfl, hb'⟩)
            have HS0 := Lib.hid (show (fun W : World => W.cell? ⟨jb, 7, none⟩ = some (.int .u32 (j.p : Nat)) ∧ W.cell? ⟨jb, 8, none⟩ = some (.int .u32 (j.q : Nat)) ∧ Below W0.heap.size W0 W) wc.drew from ⟨HC.out _ (HB7.out.trans ((ext_drew wc).mono HB7.out.size)) 7 _ rfl, HC.out _ (HB7.out.trans ((ext_drew wc).mono HB7.out.size)) 8 _ rfl, HB7.out.trans ((ext_drew wc).mono HB7.out.size)⟩)
            go_region_held3 (fun W => W.cell? ⟨jb, 7, none⟩ = some (.int .u32 (j.p : Nat)) ∧ W.cell? ⟨jb, 8, none⟩ = some (.int .u32 (j.q : Nat)) ∧ Below W0.heap.size W0 W)
              (first | exact HS9.out | exact HS0.out)
              (first
                | (go_at_call 35; (with_reducible refine (Rw7.out _).mono ?_); rintro e w9 ⟨rfl, hB9⟩; have HS9 := Lib.hid (HK.out _ _ (by assumption) hB9); clear hB9)
                | (go_at_call 35; (with_reducible refine (Rw8.out _).mono ?_); rintro e w9 ⟨rfl, hB9⟩; have HS9 := Lib.hid (HK.out _ _ (by assumption) hB9); clear hB9)
                | fail "no arm")
            all_goals go_wp2_with fail
            all_goals go_meet
            all_goals exact ⟨rfl, HS9.out.2.2⟩
          case rest =>
            obtain ⟨rfl, hB8⟩ := hcut
            have HB8 := Lib.hid hB8
            clear hB8
            go_upto_region 9 with fail
            go_cut [4] (fun v wx => v = .string (bs P9) ∧ Below W0.heap.size W0 wx)
            case first =>
              have hr9 := rowT_len kTri j.tries (by have := HJ.out.tries; omega)
              have Rw9 := Lib.hid (fun W => (show Calls Try.prog 34 #[.string ⟨#[116, 114, 105, 101, 115]⟩, .int .u64 (j.tries : Nat)] W (RetB (.string (bs (rowT kTri j.tries))) W) from rrow_any kTri (by decide) j.tries (by have := HJ.out.tries; omega) W))
              have hkl9 : kTri.length ≤ 10 := by decide
              have u9 : IntKind.u64.wrap (j.tries : Int) = (j.tries : Int) := IntWalk.u64_in _ (by have := HJ.out.tries; omega)
              have hr10 := rowT_len kBes j.best (by have := HJ.out.best; omega)
              have Rw10 := Lib.hid (fun W => (show Calls Try.prog 34 #[.string ⟨#[98, 101, 115, 116]⟩, .int .u64 (j.best : Nat)] W (RetB (.string (bs (rowT kBes j.best))) W) from rrow_any kBes (by decide) j.best (by have := HJ.out.best; omega) W))
              have hkl10 : kBes.length ≤ 10 := by decide
              have u10 : IntKind.u64.wrap (j.best : Int) = (j.best : Int) := IntWalk.u64_in _ (by have := HJ.out.best; omega)
              have hbd := Hbd.out
              have hkwl := HKl.out
              obtain ⟨T9_0, hT9_0⟩ : ∃ T, (P8 : W8) ++ (rowT kTri j.tries) = T := ⟨_, rfl⟩
              have lT9_0 : T9_0.length = (P8 : W8).length + (rowT kTri j.tries : W8).length := by rw [← hT9_0, List.length_append]
              have aT9_0 := str_add (P8) (rowT kTri j.tries) (by omega)
              rw [hT9_0] at aT9_0
              obtain ⟨T9_1, hT9_1⟩ : ∃ T, (T9_0 : W8) ++ (rowT kBes j.best) = T := ⟨_, rfl⟩
              have lT9_1 : T9_1.length = (T9_0 : W8).length + (rowT kBes j.best : W8).length := by rw [← hT9_1, List.length_append]
              have aT9_1 := str_add (T9_0) (rowT kBes j.best) (by omega)
              rw [hT9_1] at aT9_1
              have hend : T9_1 = P9 := by rw [← HP9.out, ← hT9_1, ← hT9_0]; unfold p9; rw [HP8.out] <;> rfl
              try simp only [show bs [10] = ⟨#[10]⟩ from rfl, show bs [32] = ⟨#[32]⟩ from rfl] at aT9_0 aT9_1
              rw [hend] at aT9_1
              generalize rowT kTri j.tries = y9 at *
              generalize rowT kBes j.best = y10 at *
              clear hend hT9_0 lT9_0 hT9_1 lT9_1 hbd hkwl hr9 hr10 hkl9 hkl10
              have HK := Lib.hid (show ∀ W W', (W.cell? ⟨jb, 9, none⟩ = some (.int .u32 (j.tries : Nat)) ∧ W.cell? ⟨jb, 10, none⟩ = some (.int .u32 (j.best : Nat)) ∧ Below W0.heap.size W0 W) → Below W.heap.size W W' → (W'.cell? ⟨jb, 9, none⟩ = some (.int .u32 (j.tries : Nat)) ∧ W'.cell? ⟨jb, 10, none⟩ = some (.int .u32 (j.best : Nat)) ∧ Below W0.heap.size W0 W') from fun W W' h hB => by
                have hb := h.2.2
                have hb' := hb.trans (hB.mono hb.size)
                exact ⟨HC.out W' hb' 9 _ rfl, HC.out W' hb' 10 _ rfl, hb'⟩)
              have HS0 := Lib.hid (show (fun W : World => W.cell? ⟨jb, 9, none⟩ = some (.int .u32 (j.tries : Nat)) ∧ W.cell? ⟨jb, 10, none⟩ = some (.int .u32 (j.best : Nat)) ∧ Below W0.heap.size W0 W) wc.drew from ⟨HC.out _ (HB8.out.trans ((ext_drew wc).mono HB8.out.size)) 9 _ rfl, HC.out _ (HB8.out.trans ((ext_drew wc).mono HB8.out.size)) 10 _ rfl, HB8.out.trans ((ext_drew wc).mono HB8.out.size)⟩)
              go_region_held3 (fun W => W.cell? ⟨jb, 9, none⟩ = some (.int .u32 (j.tries : Nat)) ∧ W.cell? ⟨jb, 10, none⟩ = some (.int .u32 (j.best : Nat)) ∧ Below W0.heap.size W0 W)
                (first | exact HS9.out | exact HS0.out)
                (first
                  | (go_at_call 34; (with_reducible refine (Rw9.out _).mono ?_); rintro e w9 ⟨rfl, hB9⟩; have HS9 := Lib.hid (HK.out _ _ (by assumption) hB9); clear hB9)
                  | (go_at_call 34; (with_reducible refine (Rw10.out _).mono ?_); rintro e w9 ⟨rfl, hB9⟩; have HS9 := Lib.hid (HK.out _ _ (by assumption) hB9); clear hB9)
                  | fail "no arm")
              all_goals go_wp2_with fail
              all_goals go_meet
              all_goals exact ⟨rfl, HS9.out.2.2⟩
            case rest =>
              obtain ⟨rfl, hB9⟩ := hcut
              have HB9 := Lib.hid hB9
              clear hB9
              go_upto_region 10 with fail
              go_cut [4] (fun v wx => v = .string (bs P10) ∧ Below W0.heap.size W0 wx)
              case first =>
                have hr11 := rowT_len kSha j.bsh (by have := HJ.out.bsh; omega)
                have Rw11 := Lib.hid (fun W => (show Calls Try.prog 34 #[.string ⟨#[115, 104, 97, 114, 100]⟩, .int .u64 (j.bsh : Nat)] W (RetB (.string (bs (rowT kSha j.bsh))) W) from rrow_any kSha (by decide) j.bsh (by have := HJ.out.bsh; omega) W))
                have hkl11 : kSha.length ≤ 10 := by decide
                have u11 : IntKind.u64.wrap (j.bsh : Int) = (j.bsh : Int) := IntWalk.u64_in _ (by have := HJ.out.bsh; omega)
                have hr12 := rowT_len kRoo j.bro (by have := HJ.out.bro; omega)
                have Rw12 := Lib.hid (fun W => (show Calls Try.prog 34 #[.string ⟨#[114, 111, 111, 109]⟩, .int .u64 (j.bro : Nat)] W (RetB (.string (bs (rowT kRoo j.bro))) W) from rrow_any kRoo (by decide) j.bro (by have := HJ.out.bro; omega) W))
                have hkl12 : kRoo.length ≤ 10 := by decide
                have u12 : IntKind.u64.wrap (j.bro : Int) = (j.bro : Int) := IntWalk.u64_in _ (by have := HJ.out.bro; omega)
                have hr13 := rowT_len kPoo j.bpo (by have := HJ.out.bpo; omega)
                have Rw13 := Lib.hid (fun W => (show Calls Try.prog 34 #[.string ⟨#[112, 111, 111, 108]⟩, .int .u64 (j.bpo : Nat)] W (RetB (.string (bs (rowT kPoo j.bpo))) W) from rrow_any kPoo (by decide) j.bpo (by have := HJ.out.bpo; omega) W))
                have hkl13 : kPoo.length ≤ 10 := by decide
                have u13 : IntKind.u64.wrap (j.bpo : Int) = (j.bpo : Int) := IntWalk.u64_in _ (by have := HJ.out.bpo; omega)
                have hr14 := rowT_len kSor j.bso (by have := HJ.out.bso; omega)
                have Rw14 := Lib.hid (fun W => (show Calls Try.prog 34 #[.string ⟨#[115, 111, 114, 116]⟩, .int .u64 (j.bso : Nat)] W (RetB (.string (bs (rowT kSor j.bso))) W) from rrow_any kSor (by decide) j.bso (by have := HJ.out.bso; omega) W))
                have hkl14 : kSor.length ≤ 10 := by decide
                have u14 : IntKind.u64.wrap (j.bso : Int) = (j.bso : Int) := IntWalk.u64_in _ (by have := HJ.out.bso; omega)
                have hbd := Hbd.out
                have hkwl := HKl.out
                obtain ⟨T10_0, hT10_0⟩ : ∃ T, (P9 : W8) ++ (rowT kSha j.bsh) = T := ⟨_, rfl⟩
                have lT10_0 : T10_0.length = (P9 : W8).length + (rowT kSha j.bsh : W8).length := by rw [← hT10_0, List.length_append]
                have aT10_0 := str_add (P9) (rowT kSha j.bsh) (by omega)
                rw [hT10_0] at aT10_0
                obtain ⟨T10_1, hT10_1⟩ : ∃ T, (T10_0 : W8) ++ (rowT kRoo j.bro) = T := ⟨_, rfl⟩
                have lT10_1 : T10_1.length = (T10_0 : W8).length + (rowT kRoo j.bro : W8).length := by rw [← hT10_1, List.length_append]
                have aT10_1 := str_add (T10_0) (rowT kRoo j.bro) (by omega)
                rw [hT10_1] at aT10_1
                obtain ⟨T10_2, hT10_2⟩ : ∃ T, (T10_1 : W8) ++ (rowT kPoo j.bpo) = T := ⟨_, rfl⟩
                have lT10_2 : T10_2.length = (T10_1 : W8).length + (rowT kPoo j.bpo : W8).length := by rw [← hT10_2, List.length_append]
                have aT10_2 := str_add (T10_1) (rowT kPoo j.bpo) (by omega)
                rw [hT10_2] at aT10_2
                obtain ⟨T10_3, hT10_3⟩ : ∃ T, (T10_2 : W8) ++ (rowT kSor j.bso) = T := ⟨_, rfl⟩
                have lT10_3 : T10_3.length = (T10_2 : W8).length + (rowT kSor j.bso : W8).length := by rw [← hT10_3, List.length_append]
                have aT10_3 := str_add (T10_2) (rowT kSor j.bso) (by omega)
                rw [hT10_3] at aT10_3
                have hend : T10_3 = P10 := by rw [← HP10.out, ← hT10_3, ← hT10_2, ← hT10_1, ← hT10_0]; unfold p10; rw [HP9.out] <;> rfl
                try simp only [show bs [10] = ⟨#[10]⟩ from rfl, show bs [32] = ⟨#[32]⟩ from rfl] at aT10_0 aT10_1 aT10_2 aT10_3
                rw [hend] at aT10_3
                generalize rowT kSha j.bsh = y11 at *
                generalize rowT kRoo j.bro = y12 at *
                generalize rowT kPoo j.bpo = y13 at *
                generalize rowT kSor j.bso = y14 at *
                clear hend hT10_0 lT10_0 hT10_1 lT10_1 hT10_2 lT10_2 hT10_3 lT10_3 hbd hkwl hr11 hr12 hr13 hr14 hkl11 hkl12 hkl13 hkl14
                have HK := Lib.hid (show ∀ W W', (W.cell? ⟨jb, 11, none⟩ = some (.int .u32 (j.bsh : Nat)) ∧ W.cell? ⟨jb, 12, none⟩ = some (.int .u32 (j.bro : Nat)) ∧ W.cell? ⟨jb, 13, none⟩ = some (.int .u32 (j.bpo : Nat)) ∧ W.cell? ⟨jb, 14, none⟩ = some (.int .u32 (j.bso : Nat)) ∧ Below W0.heap.size W0 W) → Below W.heap.size W W' → (W'.cell? ⟨jb, 11, none⟩ = some (.int .u32 (j.bsh : Nat)) ∧ W'.cell? ⟨jb, 12, none⟩ = some (.int .u32 (j.bro : Nat)) ∧ W'.cell? ⟨jb, 13, none⟩ = some (.int .u32 (j.bpo : Nat)) ∧ W'.cell? ⟨jb, 14, none⟩ = some (.int .u32 (j.bso : Nat)) ∧ Below W0.heap.size W0 W') from fun W W' h hB => by
                  have hb := h.2.2.2.2
                  have hb' := hb.trans (hB.mono hb.size)
                  exact ⟨HC.out W' hb' 11 _ rfl, HC.out W' hb' 12 _ rfl, HC.out W' hb' 13 _ rfl, HC.out W' hb' 14 _ rfl, hb'⟩)
                have HS0 := Lib.hid (show (fun W : World => W.cell? ⟨jb, 11, none⟩ = some (.int .u32 (j.bsh : Nat)) ∧ W.cell? ⟨jb, 12, none⟩ = some (.int .u32 (j.bro : Nat)) ∧ W.cell? ⟨jb, 13, none⟩ = some (.int .u32 (j.bpo : Nat)) ∧ W.cell? ⟨jb, 14, none⟩ = some (.int .u32 (j.bso : Nat)) ∧ Below W0.heap.size W0 W) wc.drew from ⟨HC.out _ (HB9.out.trans ((ext_drew wc).mono HB9.out.size)) 11 _ rfl, HC.out _ (HB9.out.trans ((ext_drew wc).mono HB9.out.size)) 12 _ rfl, HC.out _ (HB9.out.trans ((ext_drew wc).mono HB9.out.size)) 13 _ rfl, HC.out _ (HB9.out.trans ((ext_drew wc).mono HB9.out.size)) 14 _ rfl, HB9.out.trans ((ext_drew wc).mono HB9.out.size)⟩)
                go_region_held3 (fun W => W.cell? ⟨jb, 11, none⟩ = some (.int .u32 (j.bsh : Nat)) ∧ W.cell? ⟨jb, 12, none⟩ = some (.int .u32 (j.bro : Nat)) ∧ W.cell? ⟨jb, 13, none⟩ = some (.int .u32 (j.bpo : Nat)) ∧ W.cell? ⟨jb, 14, none⟩ = some (.int .u32 (j.bso : Nat)) ∧ Below W0.heap.size W0 W)
                  (first | exact HS9.out | exact HS0.out)
                  (first
                    | (go_at_call 34; (with_reducible refine (Rw11.out _).mono ?_); rintro e w9 ⟨rfl, hB9⟩; have HS9 := Lib.hid (HK.out _ _ (by assumption) hB9); clear hB9)
                    | (go_at_call 34; (with_reducible refine (Rw12.out _).mono ?_); rintro e w9 ⟨rfl, hB9⟩; have HS9 := Lib.hid (HK.out _ _ (by assumption) hB9); clear hB9)
                    | (go_at_call 34; (with_reducible refine (Rw13.out _).mono ?_); rintro e w9 ⟨rfl, hB9⟩; have HS9 := Lib.hid (HK.out _ _ (by assumption) hB9); clear hB9)
                    | (go_at_call 34; (with_reducible refine (Rw14.out _).mono ?_); rintro e w9 ⟨rfl, hB9⟩; have HS9 := Lib.hid (HK.out _ _ (by assumption) hB9); clear hB9)
                    | fail "no arm")
                all_goals go_wp2_with fail
                all_goals go_meet
                all_goals exact ⟨rfl, HS9.out.2.2.2.2⟩
              case rest =>
                obtain ⟨rfl, hB10⟩ := hcut
                have HB10 := Lib.hid hB10
                clear hB10
                have c4 := HC.out wc HB10.out 4 (.slice so j.src.length sc) rfl
                have HC4 := Lib.hid (fun W hB => HC.out W hB 4 (.slice so j.src.length sc) rfl)
                have HSl := Lib.hid HJ.out.src
                have Hpr2 := Lib.hid (show PJ = P10 ++ j.src.flatMap (fun v => rowT kSource v) by rw [← HP10.out]; exact Hpr.out)
                obtain ⟨l, hl⟩ : ∃ l, j.src = l := ⟨_, rfl⟩
                rw [hl] at c4 HSl Hpr2 hs Hrd HC4
                clear hl Hpr
                have Hb10 := Lib.hid (Hbd.out.2.2.2.2)
                clear l10 l32 Hbd HP6 HP7 HP8 HP9 HP10
                go_wp2_with fail
                go_loopw [4, 5, 96] (fun v _ i wr => spI W0 P10 l v i wr) (fun _ _ i _ => l.length - (intOf i).toNat)
                case atStart => exact ⟨0, Nat.zero_le _, rfl, by simp, HB10.out⟩
                case round =>
                  obtain ⟨a, ha, rfl, rfl, hB⟩ := hrel
                  have HBr := Lib.hid hB
                  clear hB
                  by_cases hlt : a < l.length
                  · have hir : (a : Int) < (l.length : Int) := by omega
                    obtain ⟨p1, o1, rfl, hp1, hc1⟩ := Hrd.out.pos (by omega)
                    have e1 := ((bcell HBr.out).1 _ _ hp1).trans (hc1 a hlt)
                    simp only [u32s, List.getElem?_map, List.getElem?_eq_getElem hlt, Option.map_some] at e1
                    have k4 := HC4.out wr HBr.out
                    have hv := HSl.out l[a] (List.getElem_mem hlt)
                    have HT := Lib.hid (show (l.take (a + 1)).flatMap (fun v => rowT kSource v) = (l.take a).flatMap (fun v => rowT kSource v) ++ rowT kSource l[a] by
                      rw [List.take_succ_eq_append_getElem hlt, List.flatMap_append, List.flatMap_singleton])
                    have htl := src_len l a (fun x hx => by have := HSl.out x hx; omega)
                    generalize l[a] = y at e1 hv HT
                    generalize (l.take a).flatMap (fun v => rowT kSource v) = T at *
                    have hrl := rowT_len kSource y (by omega)
                    have Rw := Lib.hid (fun W => (show Calls Try.prog 34 #[.string ⟨#[115, 111, 117, 114, 99, 101]⟩, .int .u64 (y : Nat)] W (RetB (.string (bs (rowT kSource y))) W) from rrow_any kSource (by decide) y (by omega) W))
                    have hksl : kSource.length = 6 := rfl
                    have hb := Hb10.out
                    have hadd := str_add (P10 ++ T) (rowT kSource y) (by rw [List.length_append]; omega)
                    have uy : IntKind.u64.wrap (y : Int) = (y : Int) := IntWalk.u64_in _ (by omega)
                    have HE := Lib.hid (show P10 ++ T ++ rowT kSource y = P10 ++ (l.take (a + 1)).flatMap (fun v => rowT kSource v) by rw [HT.out, List.append_assoc])
                    generalize rowT kSource y = ry at *
                    obtain ⟨Q, hQ⟩ : ∃ Q, P10 ++ T = Q := ⟨_, rfl⟩
                    rw [hQ] at hadd HE ⊢
                    clear hQ hrl htl hb hksl hc1 hp1 hv
                    go_wp2_with (go_at_call 34; (with_reducible refine (Rw.out _).mono ?_); rintro e w9 ⟨rfl, hB9⟩; have HB9 := Lib.hid (HBr.out.trans (hB9.mono HBr.out.size)); clear hB9)
                    go_roundw
                    case rel => exact ⟨a + 1, by omega, by go_num, by rw [HE.out], HB9.out⟩
                    case measure => simp [intOf]; omega
                  · obtain rfl : a = l.length := by omega
                    rw [List.take_length] at *
                    rw [← Hpr2.out]
                    go_wp2_with fail
                    go_ret
                    exact ⟨rfl, B0.out.trans (HBr.out.mono B0.out.size)⟩
end Go.Proofs.Ytmflopeedofkhaa
