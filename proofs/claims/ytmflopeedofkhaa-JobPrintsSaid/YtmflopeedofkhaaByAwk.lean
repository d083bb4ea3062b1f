/- Texts merged into one: JSame, JAwake. -/
import Derived.Test.YtmflopeedofkhaaByRef
import Derived.Test.YtmflopeedofkhaaByRdr
import Derived.Test.YtmflopeedofkhaaByJobM
import Derived.Lib.SlBytesConst
namespace Go.Proofs.Ytmflopeedofkhaa
set_option linter.unusedSimpArgs false
set_option linter.unusedVariables false
set_option maxRecDepth 100000
open Go.RowKit

def smI (w0 : World) (n : Nat) (i : Value) (wr : World) : Prop := ∃ a m : Nat, a ≤ n ∧ i = .int .i64 (a : Nat) ∧ wr = w0.drewN m
set_option maxHeartbeats 6400000 in
theorem rsame19_any (j : JobD) (hl : j.src.length ≤ 1000000) (so so' : Option Addr) (sc sc' : Nat) (w : World) (h1 : Rd w so j.src.length (u32s j.src)) (h2 : Rd w so' j.src.length (u32s j.src)) :
    Calls Try.prog 11 #[.agg (jobCs j so sc), .agg (jobCs j so' sc')] w (RetB (.bool true) w) := by
  obtain ⟨W0, hW0⟩ : ∃ W0, (w.alloc (.cells (jobCs j so sc) 30)).alloc (.cells (jobCs j so' sc') 30) = W0 := ⟨_, rfl⟩
  have B0 := Lib.hid (show Below w.heap.size w W0 by rw [← hW0]; exact (ext_alloc w _).alloc (by simp) _)
  have R0 : W0.heap[w.heap.size]? = some (.cells (jobCs j so sc) 30 (0, 0)) := by rw [← hW0]; exact heap_alloc2_old _ _ _
  have R1 : W0.heap[w.heap.size + 1]? = some (.cells (jobCs j so' sc') 30 (0, 0)) := by rw [← hW0]; exact heap_alloc2_new _ _ _
  obtain ⟨b1, hb1⟩ : ∃ b1, b1 = w.heap.size := ⟨_, rfl⟩
  obtain ⟨b2, hb2⟩ : ∃ b2, b2 = w.heap.size + 1 := ⟨_, rfl⟩
  rw [← hb1] at R0
  rw [← hb2] at R1
  have c0 : W0.cell? ⟨b1, 0, none⟩ = some (.int .u8 (j.kind : Nat)) := (cell_of_row _ _ _ _ _ _ R0).trans rfl
  have c1 : W0.cell? ⟨b1, 1, none⟩ = some (.int .u64 (j.seed : Nat)) := (cell_of_row _ _ _ _ _ _ R0).trans rfl
  have c2 : W0.cell? ⟨b1, 2, none⟩ = some (.int .u32 (j.length : Nat)) := (cell_of_row _ _ _ _ _ _ R0).trans rfl
  have c3 : W0.cell? ⟨b1, 3, none⟩ = some (.int .u32 (j.walks : Nat)) := (cell_of_row _ _ _ _ _ _ R0).trans rfl
  have c4 : W0.cell? ⟨b1, 4, none⟩ = some (.slice so j.src.length sc) := (cell_of_row _ _ _ _ _ _ R0).trans rfl
  have c5 : W0.cell? ⟨b1, 5, none⟩ = some (.int .u32 (j.stop : Nat)) := (cell_of_row _ _ _ _ _ _ R0).trans rfl
  have c6 : W0.cell? ⟨b1, 6, none⟩ = some (.int .u32 (j.od : Nat)) := (cell_of_row _ _ _ _ _ _ R0).trans rfl
  have c7 : W0.cell? ⟨b1, 7, none⟩ = some (.int .u32 (j.p : Nat)) := (cell_of_row _ _ _ _ _ _ R0).trans rfl
  have c8 : W0.cell? ⟨b1, 8, none⟩ = some (.int .u32 (j.q : Nat)) := (cell_of_row _ _ _ _ _ _ R0).trans rfl
  have c9 : W0.cell? ⟨b1, 9, none⟩ = some (.int .u32 (j.tries : Nat)) := (cell_of_row _ _ _ _ _ _ R0).trans rfl
  have c10 : W0.cell? ⟨b1, 10, none⟩ = some (.int .u32 (j.best : Nat)) := (cell_of_row _ _ _ _ _ _ R0).trans rfl
  have c11 : W0.cell? ⟨b1, 11, none⟩ = some (.int .u32 (j.bsh : Nat)) := (cell_of_row _ _ _ _ _ _ R0).trans rfl
  have c12 : W0.cell? ⟨b1, 11 + 1, none⟩ = some (.int .u32 (j.bro : Nat)) := (cell_of_row _ _ _ _ _ _ R0).trans rfl
  have c13 : W0.cell? ⟨b1, 11 + 2, none⟩ = some (.int .u32 (j.bpo : Nat)) := (cell_of_row _ _ _ _ _ _ R0).trans rfl
  have c14 : W0.cell? ⟨b1, 11 + 3, none⟩ = some (.int .u32 (j.bso : Nat)) := (cell_of_row _ _ _ _ _ _ R0).trans rfl
  have d0 : W0.cell? ⟨b2, 0, none⟩ = some (.int .u8 (j.kind : Nat)) := (cell_of_row _ _ _ _ _ _ R1).trans rfl
  have d1 : W0.cell? ⟨b2, 1, none⟩ = some (.int .u64 (j.seed : Nat)) := (cell_of_row _ _ _ _ _ _ R1).trans rfl
  have d2 : W0.cell? ⟨b2, 2, none⟩ = some (.int .u32 (j.length : Nat)) := (cell_of_row _ _ _ _ _ _ R1).trans rfl
  have d3 : W0.cell? ⟨b2, 3, none⟩ = some (.int .u32 (j.walks : Nat)) := (cell_of_row _ _ _ _ _ _ R1).trans rfl
  have d4 : W0.cell? ⟨b2, 4, none⟩ = some (.slice so' j.src.length sc') := (cell_of_row _ _ _ _ _ _ R1).trans rfl
  have d5 : W0.cell? ⟨b2, 5, none⟩ = some (.int .u32 (j.stop : Nat)) := (cell_of_row _ _ _ _ _ _ R1).trans rfl
  have d6 : W0.cell? ⟨b2, 6, none⟩ = some (.int .u32 (j.od : Nat)) := (cell_of_row _ _ _ _ _ _ R1).trans rfl
  have d7 : W0.cell? ⟨b2, 7, none⟩ = some (.int .u32 (j.p : Nat)) := (cell_of_row _ _ _ _ _ _ R1).trans rfl
  have d8 : W0.cell? ⟨b2, 8, none⟩ = some (.int .u32 (j.q : Nat)) := (cell_of_row _ _ _ _ _ _ R1).trans rfl
  have d9 : W0.cell? ⟨b2, 9, none⟩ = some (.int .u32 (j.tries : Nat)) := (cell_of_row _ _ _ _ _ _ R1).trans rfl
  have d10 : W0.cell? ⟨b2, 10, none⟩ = some (.int .u32 (j.best : Nat)) := (cell_of_row _ _ _ _ _ _ R1).trans rfl
  have d11 : W0.cell? ⟨b2, 11, none⟩ = some (.int .u32 (j.bsh : Nat)) := (cell_of_row _ _ _ _ _ _ R1).trans rfl
  have d12 : W0.cell? ⟨b2, 11 + 1, none⟩ = some (.int .u32 (j.bro : Nat)) := (cell_of_row _ _ _ _ _ _ R1).trans rfl
  have d13 : W0.cell? ⟨b2, 11 + 2, none⟩ = some (.int .u32 (j.bpo : Nat)) := (cell_of_row _ _ _ _ _ _ R1).trans rfl
  have d14 : W0.cell? ⟨b2, 11 + 3, none⟩ = some (.int .u32 (j.bso : Nat)) := (cell_of_row _ _ _ _ _ _ R1).trans rfl
  have Hc4 := Lib.hid (And.intro c4 d4)
  have H1 := Lib.hid (h1.ext B0.out)
  have H2 := Lib.hid (h2.ext B0.out)
  have HW0 := Lib.hid hW0
  have Hb := Lib.hid (And.intro hb1 hb2)
  clear hW0 h1 h2 R0 R1 hb1 hb2
  generalize jobCs j so sc = jc at HW0 ⊢
  generalize jobCs j so' sc' = jd at HW0 ⊢
  obtain ⟨l, hll⟩ : ∃ l, j.src = l := ⟨_, rfl⟩
  rw [hll] at c4 d4 H1 H2 hl
  clear hll
  generalize j.kind = x0 at *
  generalize j.seed = x1 at *
  generalize j.length = x2 at *
  generalize j.walks = x3 at *
  generalize j.stop = x5 at *
  generalize j.od = x6 at *
  generalize j.p = x7 at *
  generalize j.q = x8 at *
  generalize j.tries = x9 at *
  generalize j.best = x10 at *
  generalize j.bsh = x11 at *
  generalize j.bro = x12 at *
  generalize j.bpo = x13 at *
  generalize j.bso = x14 at *
  clear Hc4
  go_enter Try.func11, Try.ntmps11
  go_upto_region 1 with fail
  rw [HW0.out, ← Hb.out.1, show b1 + 1 = b2 by have := Hb.out; omega]
  go_wp2_with fail
  go_loopw [5, 16] (fun _ i wr => smI W0 l.length i wr) (fun _ i _ => l.length - (intOf i).toNat)
  case atStart => exact ⟨0, 0, Nat.zero_le _, rfl, rfl⟩
  case round =>
    obtain ⟨a, m, ha, rfl, rfl⟩ := hrel
    by_cases hlt : a < l.length
    · have hir : (a : Int) < (l.length : Int) := by omega
      obtain ⟨p1, o1, rfl, hp1, hc1⟩ := H1.out.pos (by omega)
      obtain ⟨p2, o2, rfl, hp2, hc2⟩ := H2.out.pos (by omega)
      have e1 := hc1 a hlt
      have e2 := hc2 a hlt
      simp only [u32s, List.getElem?_map, List.getElem?_eq_getElem hlt, Option.map_some] at e1 e2
      generalize l[a] = y at e1 e2
      clear hc1 hc2 hp1 hp2
      go_wp2_with fail
      go_quiet (fail)
      go_wp2_with fail
      go_roundw
      case rel => exact ⟨a + 1, _, by omega, by go_num, rfl⟩
      case measure => simp [intOf]; omega
    · obtain rfl : a = l.length := by omega
      go_wp2_with fail
      go_ret
      exact ⟨rfl, below_drewN B0.out _⟩
end Go.Proofs.Ytmflopeedofkhaa

namespace Go.Proofs.Ytmflopeedofkhaa
set_option linter.unusedSimpArgs false
set_option linter.unusedVariables false
set_option maxRecDepth 100000
open Go.RowKit

def awk19 : JobD := ⟨0, 0, 10, 1, [5], 0, 1, 1, 1, 100, 10, 1024, 4096, 64, 64⟩
theorem awk19_ok : JobOk awk19 := by
  refine ⟨?_, ?_, ?_, ?_, ?_, ?_, ?_, ?_, ?_, ?_, ?_, ?_, ?_, ?_, ?_⟩ <;> decide
theorem awk19_read : readJ [115, 111, 117, 114, 99, 101, 32, 53] = (awk19, 0, 0) := by kernel_rfl
theorem awk19_may : mayJ awk19 = true := by decide
theorem rd_const19 (w : World) (C : Array Value) (e : TypeId) (fr : Nat × Nat) (l : List UInt8) (h : C = (byteVals l).toArray) : Rd (w.alloc (.cells C e fr)) (some ⟨w.heap.size, 0, none⟩) l.length (byteVals l) := by
  subst h
  refine ⟨by simp [byteVals], .inr ⟨w.heap.size, 0, rfl, by simp, fun j _ => ?_⟩⟩
  rw [Nat.zero_add, World.cell?_alloc_mark]
  simp
set_option maxRecDepth 100000 in
set_option maxHeartbeats 6400000 in
theorem awake19_any (w : World) : Calls Try.prog 8 #[] w (RetB (.bool true) w) := by
  have HRd := Lib.hid (fun W ao cap h hc hm => (show Calls Try.prog 9 #[.slice ao 8 cap] W (ReadRet (awk19, 0, 0) W) from awk19_read ▸ jread_any [115, 111, 117, 114, 99, 101, 32, 53] (by decide) ao cap W h hc hm))
  go_enter Try.func8, Try.ntmps8
  have kc := fun (w : World) (C : Array Value) (n c : Nat) => Lib.run_convert_bytes_const (P := Try.prog) w 22 5 C n c Try.underlying22 Try.underlying5
  go_upto_region 2 with (first
    | (go_at_call 9; refine (HRd.out _ _ _ (rd_const19 _ _ _ _ [115, 111, 117, 114, 99, 101, 32, 53] rfl) (by decide) (by decide)).mono ?_; rintro e w1 ⟨so, sc, rfl, hx, hy⟩; have HSr := Lib.hid hx; have B1 := Lib.hid hy; clear hx hy)
    | (refine wpList_store_row rfl _ _ _ rfl rfl rfl (heap_alloc_new _ _) rfl (jb_info19 _ _ _) (jb_one19 _ _ _) ?_; intro w3 h3 o3; have R3 := Lib.hid h3; have O3 := Lib.hid o3; clear h3 o3))
  obtain ⟨nb, hnb⟩ : ∃ nb, nb = w1.heap.size := ⟨_, rfl⟩
  rw [← hnb] at R3 ⊢
  have hz1 := B1.out.size
  have hz3 := O3.out.size
  have hB3 : Below w.heap.size w w3 := (((ext_alloc w _).trans (B1.out.mono (by simp))).alloc (by simp at hz1; omega) _).trans (O3.out.below (by simp at hz1; simp; omega) (fun k hk e => by simp at hz1; omega))
  have hsr3 : Rd w3 so awk19.src.length (u32s awk19.src) := ((HSr.out.ext (ext_alloc w1 _)).onlyB O3.out (fun hn k off hk e => by
    obtain ⟨b', off', h1, h2, _⟩ := HSr.out.pos hn
    rw [hk] at h1
    cases h1
    omega))
  have HB3 := Lib.hid hB3
  have Hsr3 := Lib.hid hsr3
  obtain ⟨b, off, rfl, hb, hc⟩ := hsr3.pos (by decide)
  have cs : w3.cell? ⟨b, off, none⟩ = some (.int .u32 5) := hc 0 (by decide)
  have c2 : w3.cell? ⟨nb, 2, none⟩ = some (.int .u32 10) := (cell_of_row _ _ _ _ _ _ R3.out).trans rfl
  have c3 : w3.cell? ⟨nb, 3, none⟩ = some (.int .u32 1) := (cell_of_row _ _ _ _ _ _ R3.out).trans rfl
  have c4 : w3.cell? ⟨nb, 4, none⟩ = some (.slice (some ⟨b, off, none⟩) 1 sc) := (cell_of_row _ _ _ _ _ _ R3.out).trans rfl
  have HMy := Lib.hid (fun W (h : Below w3.heap.size w3 W) => (show Calls Try.prog 12 #[.agg (jobCs awk19 (some ⟨b, off, none⟩) sc)] W (fun e w' => e = .returned (.bool true) ∧ Below W.heap.size W w') from awk19_may ▸ may_any awk19 awk19_ok _ sc W (Hsr3.out.ext h)))
  have HWk := Lib.hid (fun W (h : Below w3.heap.size w3 W) => (show Calls Try.prog 17 #[.agg (jobCs awk19 (some ⟨b, off, none⟩) sc)] W (RetB (.int .u32 1) W) from (show walkV awk19 = .int .u32 1 by unfold walkV walkersJ; rw [awk19_may]; rfl) ▸ jwalkers_any awk19 awk19_ok _ sc W (by decide) (Hsr3.out.ext h)))
  clear hb hc hsr3 hB3 hz1 hz3 hnb O3
  have HIj := Lib.hid (jb_info19 awk19 (some ⟨b, off, none⟩) sc)
  generalize jobCs awk19 (some ⟨b, off, none⟩) sc = jc at *
  go_wp2_with (first
    | (refine wpList_load_rowg rfl _ _ rfl nb rfl 30 jc (0, 0) _ R3.out Try.underlying30 rfl HIj.out ?_)
    | (refine wpList_load_rowg rfl _ _ rfl nb rfl 30 jc (0, 0) _ R4.out Try.underlying30 rfl HIj.out ?_)
    | (go_at_call 12; refine (HMy.out _ (Below.refl _ _)).mono ?_; rintro e w4 ⟨rfl, hB4⟩; have R4 := Lib.hid ((hB4.block nb (blk_lt R3.out)).trans R3.out); have HB4 := Lib.hid hB4; clear hB4)
    | (go_at_call 17; refine (HWk.out _ HB4.out).mono ?_; rintro e w5 ⟨rfl, hB5⟩; have HB5 := Lib.hid hB5; clear hB5))
  go_ret
  have b4 := HB3.out.trans (HB4.out.mono HB3.out.size)
  exact ⟨rfl, b4.trans (HB5.out.mono b4.size)⟩
end Go.Proofs.Ytmflopeedofkhaa
