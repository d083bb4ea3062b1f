/- WalkLonger: the walk. -/
import Derived.Test.YtcklfffeimnfeaaGreatBx22
import Derived.Deep.RegionHeld
namespace Go.Proofs.YtcklfffeimnfeaaGreat
set_option linter.unusedSimpArgs false
set_option linter.unusedVariables false
set_option maxRecDepth 100000
open Go.RowKit

def LRows (a b : Nat) (jc kc : Array Value) (w : World) : Prop := w.heap[a]? = some (.cells jc 29 (0, 0)) ∧ w.heap[b]? = some (.cells kc 29 (0, 0))
theorem LRows.ext {a b : Nat} {jc kc : Array Value} {w w' : World} (h : LRows a b jc kc w) (hB : Below w.heap.size w w') : LRows a b jc kc w' := ⟨heap_keep h.1 hB, heap_keep h.2 hB⟩
theorem u32s_append22 (A B : List Nat) : u32s (A ++ B) = u32s A ++ u32s B := by simp [u32s]
theorem Rd.pre {w : World} {ao : Option Addr} {A C : List Nat} (h : Rd w ao C.length (u32s C)) (hp : A <+: C) : Rd w ao A.length (u32s A) := by
  have hl := hp.length_le
  obtain ⟨Z, rfl⟩ := hp
  refine ⟨by simp [u32s], ?_⟩
  rcases h.2 with h2 | ⟨b, off, h1, h2, h3⟩
  · exact .inl (by omega)
  · refine .inr ⟨b, off, h1, h2, fun i hi => (h3 i (by omega)).trans ?_⟩
    rw [u32s_append22, List.getElem?_append_left (by simpa [u32s] using hi)]
theorem takeU_run (ao : Option Addr) (len cap k : Nat) (hk : k ≤ cap) (W : World) : (Instr.sliceAt 25 (.slice ao len cap) none (some (.int .i64 (k : Nat))) none).run Tryz.prog W = .ok (.slice ao k cap) W := by
  have hu : Tryz.prog.underlying 25 = some (.slice (Tryz.prog.elem 25)) := by kernel_rfl
  rw [run_sliceAt_slice W 25 _ _ _ _ hu, run_slice_h W 25 ao len cap hu .i64 (k : Int) (by omega) (by omega)]
  have hs : (sizeOf (Tryz.prog.elem 25)).run Tryz.prog W = .ok 1 W := by kernel_rfl
  rw [hs]
  cases ao <;> simp [sliced, Result.andThen] <;> exact fun _ => rfl
set_option maxRecDepth 100000 in
set_option maxHeartbeats 6400000 in
theorem longer_walk (l : List EdgeD) (eo : Option Addr) (ec : Nat) (fp : Nat → Prop) (j : JobD) (hj : JobOk j) (so : Option Addr) (sc id longer : Nat) (hid : id < 4294967296) (b0 b1 b2 b3 best : Nat) (h0 : b0 < 4294967296) (h1 : b1 < 4294967296) (h2 : b2 < 4294967296) (h3 : b3 < 4294967296) (h4 : best < 4294967296) (h5 : longer < 4294967296)
    (w : World) (hsrc : Rd w so j.src.length (u32s j.src)) (hrd : RdS edgeRep fp w eo l) :
    Calls Tryz.prog 5 #[.slice eo l.length ec, .agg (jobCs j so sc), .int .u32 (id : Nat), .int .u32 (longer : Nat), .agg #[.int .u32 (b0 : Nat), .int .u32 (b1 : Nat), .int .u32 (b2 : Nat), .int .u32 (b3 : Nat)], .int .u32 (best : Nat)] w (RetB (.bool true) w) := by
  have HA := Lib.hid awake22_any
  obtain ⟨W2, hW2⟩ : ∃ W2, W2 = (w.alloc (.cells (jobCs j so sc) 29)).alloc (.cells #[.int .u32 (b0 : Nat), .int .u32 (b1 : Nat), .int .u32 (b2 : Nat), .int .u32 (b3 : Nat)] 27) := ⟨_, rfl⟩
  have hz2 : W2.heap.size = w.heap.size + 2 := by rw [hW2]; simp
  have HB2 := Lib.hid (show Below w.heap.size w W2 by rw [hW2]; exact (ext_alloc w _).alloc (by simp) _)
  have Hj2 := Lib.hid (show W2.heap[w.heap.size]? = some (.cells (jobCs j so sc) 29 (0, 0)) by rw [hW2]; exact heap_alloc2_old _ _ _)
  have HL := Lib.hid (show W2.heap[w.heap.size]? = some (.cells #[.int .u8 (j.kind : Nat), .int .u64 (j.seed : Nat), .int .u32 (j.length : Nat), .int .u32 (j.walks : Nat), .slice so j.src.length sc, .int .u32 (j.stop : Nat), .int .u32 (j.od : Nat), .int .u32 (j.p : Nat), .int .u32 (j.q : Nat), .int .u32 (j.tries : Nat), .int .u32 (j.best : Nat), .int .u32 (j.bsh : Nat), .int .u32 (j.bro : Nat), .int .u32 (j.bpo : Nat), .int .u32 (j.bso : Nat)] 29 (0, 0)) from Hj2.out)
  have Hb3 := Lib.hid (fun o => (show (W2.alloc o).heap[w.heap.size + 1]? = some (.cells #[.int .u32 (b0 : Nat), .int .u32 (b1 : Nat), .int .u32 (b2 : Nat), .int .u32 (b3 : Nat)] 27 (0, 0)) from (Below.heap_alloc _ _ _ (by omega)).trans (by rw [hW2]; exact heap_alloc2_new _ _ _)))
  have HW2 := Lib.hid hW2
  clear hW2
  go_enter Tryz.func5, Tryz.ntmps5
  go_upto_region 1 with fail
  rw [← HW2.out]
  clear HW2
  go_upto_region 5 with (first
    | (refine wpList_load_row rfl _ _ rfl w.heap.size rfl 29 _ (0, 0) _ HL.out Tryz.underlying29 rfl (show _ = some 15 by kernel_rfl) ?_)
    | (refine wpList_load_row rfl _ _ rfl (w.heap.size + 1) rfl 27 _ (0, 0) _ (Hb3.out _) Tryz.underlying27 rfl (show _ = some 4 by kernel_rfl) ?_))
  obtain ⟨W3, hW3⟩ : ∃ W3, W2.alloc (.cells #[.int .u8 (j.kind : Nat), .int .u64 (j.seed : Nat), .int .u32 (longer : Nat), .int .u32 (j.walks : Nat), .slice so j.src.length sc, .int .u32 (j.stop : Nat), .int .u32 (j.od : Nat), .int .u32 (j.p : Nat), .int .u32 (j.q : Nat), .int .u32 (j.tries : Nat), .int .u32 (best : Nat), .int .u32 (b0 : Nat), .int .u32 (b1 : Nat), .int .u32 (b2 : Nat), .int .u32 (b3 : Nat)] 29) = W3 := ⟨_, rfl⟩
  rw [hW3]
  have hk := withK_ok hj h0 h1 h2 h3 h4 h5
  have hsm := withK_same j b0 b1 b2 b3 best longer
  obtain ⟨k, hke⟩ : ∃ k, withK j b0 b1 b2 b3 best longer = k := ⟨_, rfl⟩
  have hB23 : Below W2.heap.size W2 W3 := by rw [← hW3]; exact ext_alloc _ _
  have B3 := Lib.hid (HB2.out.trans (hB23.mono (by omega)))
  have hlk : k.length = longer := by rw [← hke]; rfl
  have S3 := Lib.hid (show LRows w.heap.size (w.heap.size + 2) (jobCs j so sc) (jobCs k so sc) W3 from ⟨heap_keep Hj2.out hB23, by rw [← hW3, ← hz2, ← hke]; exact heap_alloc_new _ _⟩)
  rw [hke] at hk hsm
  clear hW3 hke hB23 HB2 Hj2 Hb3 HL hz2
  generalize (Value.agg #[.int .u32 (b0 : Nat), .int .u32 (b1 : Nat), .int .u32 (b2 : Nat), .int .u32 (b3 : Nat)]) = z4
  generalize (Value.agg #[.int .u8 (j.kind : Nat), .int .u64 (j.seed : Nat), .int .u32 (j.length : Nat), .int .u32 (j.walks : Nat), .slice so j.src.length sc, .int .u32 (j.stop : Nat), .int .u32 (j.od : Nat), .int .u32 (j.p : Nat), .int .u32 (j.q : Nat), .int .u32 (j.tries : Nat), .int .u32 (j.best : Nat), .int .u32 (j.bsh : Nat), .int .u32 (j.bro : Nat), .int .u32 (j.bpo : Nat), .int .u32 (j.bso : Nat)]) = z5
  generalize hz0 : (Value.agg (jobCs j so sc)) = z0
  clear hz0
  have hsk : k.src = j.src := hsm.src
  have HGj := Lib.hid (fun W => great22_any j hj so sc W)
  have HGk := Lib.hid (fun W => great22_any k hk so sc W)
  have HMj := Lib.hid (fun (hs : j.src.length ≤ 1000000) W (h : Below w.heap.size w W) => rmay_any j hj so sc W hs (hsrc.ext h))
  have HMk := Lib.hid (fun (hs : j.src.length ≤ 1000000) W (h : Below w.heap.size w W) => rmay_any k hk so sc W (by rw [hsk]; exact hs) (by rw [hsk]; exact hsrc.ext h))
  have HC := Lib.hid (fun W (h : LRows w.heap.size (w.heap.size + 2) (jobCs j so sc) (jobCs k so sc) W) => (show W.cell? ⟨w.heap.size, 2, none⟩ = some (.int .u32 (j.length : Nat)) from cell_of_row W _ 2 _ _ (0, 0) h.1))
  have HIj := Lib.hid (jb_info2 j so sc)
  have HIk := Lib.hid (jb_info2 k so sc)
  have HPj := Lib.hid (fun (p : Option Nat) (R : List RowD) (W : World) (hR : okG R) (hl : R.length ≤ 1000) (ha : ∀ r ∈ R, r.2.length ≤ 1000) (gfp : Nat → Prop) (hg : GraphIs W gfp p R) (hgf : ∀ b, gfp b → b < W.heap.size) (hB : Below w.heap.size w W) (hs : j.src.length ≤ 1000000) => path_any p R gfp W hR hl ha hg hgf j hj so sc id hid hs (hsrc.ext hB))
  have HPk := Lib.hid (fun (p : Option Nat) (R : List RowD) (W : World) (hR : okG R) (hl : R.length ≤ 1000) (ha : ∀ r ∈ R, r.2.length ≤ 1000) (gfp : Nat → Prop) (hg : GraphIs W gfp p R) (hgf : ∀ b, gfp b → b < W.heap.size) (hB : Below w.heap.size w W) (hs : j.src.length ≤ 1000000) => path_any p R gfp W hR hl ha hg hgf k hk so sc id hid (by rw [hsk]; exact hs) (by rw [hsk]; exact hsrc.ext hB))
  clear hsk hsrc
  generalize jobCs j so sc = jc at *
  generalize jobCs k so sc = kc at *
  by_cases c1 : 60 < l.length
  · have d1 : decide ((60 : Int) < (l.length : Int)) = true := by simp; omega
    have d1' : decide (60 < l.length) = true := by simp; omega
    clear HPj HPk
    go_wp2_with (go_at_call 12; (with_reducible refine (HA.out _).mono ?_); rintro e w9 ⟨rfl, hB⟩; have B9 := Lib.hid (B3.out.trans (hB.mono B3.out.size)); clear hB)
    go_ret
    exact ⟨rfl, B9.out⟩
  have d1 : decide ((60 : Int) < (l.length : Int)) = false := by simp; omega
  have d1' : decide (60 < l.length) = false := by simp; omega
  cases hgj : greatW j with
  | true =>
    rw [hgj] at HGj
    clear HPj HPk HMj HMk
    go_wp2_with (first
    | (refine wpList_load_rowg rfl _ _ rfl w.heap.size rfl 29 jc (0, 0) _ S3.out.1 Tryz.underlying29 rfl HIj.out ?_)
    | (go_at_call 11; (with_reducible refine (HGj.out _).mono ?_); rintro e w4 ⟨rfl, hB⟩; have S4 := Lib.hid (S3.out.ext hB); have B4 := Lib.hid (B3.out.trans (hB.mono B3.out.size)); clear hB)
    | (go_at_call 12; (with_reducible refine (HA.out _).mono ?_); rintro e w9 ⟨rfl, hB⟩; have B9 := Lib.hid (B4.out.trans (hB.mono B4.out.size)); clear hB))
    go_ret
    exact ⟨rfl, B9.out⟩
  | false =>
  rw [hgj] at HGj
  have hg1 := greatW_no hgj
  have hsl : j.src.length ≤ 1000000 := by omega
  have HMj := Lib.hid (HMj.out hsl)
  have HMk := Lib.hid (HMk.out hsl)
  cases hgk : greatW k with
  | true =>
    rw [hgk] at HGk
    clear HPj HPk HMj HMk
    go_wp2_with (first
    | (refine wpList_load_rowg rfl _ _ rfl w.heap.size rfl 29 jc (0, 0) _ S3.out.1 Tryz.underlying29 rfl HIj.out ?_)
    | (refine wpList_load_rowg rfl _ _ rfl (w.heap.size + 2) rfl 29 kc (0, 0) _ S4.out.2 Tryz.underlying29 rfl HIk.out ?_)
    | (go_at_call 11; (with_reducible refine (HGj.out _).mono ?_); rintro e w4 ⟨rfl, hB⟩; have S4 := Lib.hid (S3.out.ext hB); have B4 := Lib.hid (B3.out.trans (hB.mono B3.out.size)); clear hB)
    | (go_at_call 11; (with_reducible refine (HGk.out _).mono ?_); rintro e w5 ⟨rfl, hB⟩; have S5 := Lib.hid (S4.out.ext hB); have B5 := Lib.hid (B4.out.trans (hB.mono B4.out.size)); clear hB)
    | (go_at_call 12; (with_reducible refine (HA.out _).mono ?_); rintro e w9 ⟨rfl, hB⟩; have B9 := Lib.hid (B5.out.trans (hB.mono B5.out.size)); clear hB))
    go_ret
    exact ⟨rfl, B9.out⟩
  | false =>
  rw [hgk] at HGk
  by_cases c4 : longer < j.length
  · have d4 : decide ((longer : Int) < (j.length : Int)) = true := by simp; omega
    have d4' : decide (longer < j.length) = true := by simp; omega
    clear HPj HPk
    go_wp2_with (first
    | (refine wpList_load_rowg rfl _ _ rfl w.heap.size rfl 29 jc (0, 0) _ S3.out.1 Tryz.underlying29 rfl HIj.out ?_)
    | (refine wpList_load_rowg rfl _ _ rfl (w.heap.size + 2) rfl 29 kc (0, 0) _ S4.out.2 Tryz.underlying29 rfl HIk.out ?_)
    | (refine wpList_load_rowg rfl _ _ rfl w.heap.size rfl 29 jc (0, 0) _ S5.out.1 Tryz.underlying29 rfl HIj.out ?_)
    | (refine wpList_load_rowg rfl _ _ rfl (w.heap.size + 2) rfl 29 kc (0, 0) _ S6.out.2 Tryz.underlying29 rfl HIk.out ?_)
    | (go_at_call 11; (with_reducible refine (HGj.out _).mono ?_); rintro e w4 ⟨rfl, hB⟩; have S4 := Lib.hid (S3.out.ext hB); have B4 := Lib.hid (B3.out.trans (hB.mono B3.out.size)); clear hB)
    | (go_at_call 11; (with_reducible refine (HGk.out _).mono ?_); rintro e w5 ⟨rfl, hB⟩; have S5 := Lib.hid (S4.out.ext hB); have B5 := Lib.hid (B4.out.trans (hB.mono B4.out.size)); have cj := HC.out _ S5.out; clear hB)
    | (go_at_call 20; (with_reducible refine (HMj.out _ B5.out).mono ?_); rintro e w6 ⟨rfl, hB⟩; have S6 := Lib.hid (S5.out.ext hB); have B6 := Lib.hid (B5.out.trans (hB.mono B5.out.size)); clear hB)
    | (go_at_call 20; (with_reducible refine (HMk.out _ B6.out).mono ?_); rintro e w7 ⟨rfl, hB⟩; have S7 := Lib.hid (S6.out.ext hB); have B7 := Lib.hid (B6.out.trans (hB.mono B6.out.size)); clear hB)
    | (go_at_call 12; (with_reducible refine (HA.out _).mono ?_); rintro e w9 ⟨rfl, hB⟩; have B9 := Lib.hid (B5.out.trans (hB.mono B5.out.size)); clear hB))
    go_ret
    exact ⟨rfl, B9.out⟩
  have d4 : decide ((longer : Int) < (j.length : Int)) = false := by simp; omega
  have d4' : decide (longer < j.length) = false := by simp; omega
  cases hmj : mayJ j with
  | false =>
    rw [hmj] at HMj
    clear HPj HPk
    go_wp2_with (first
    | (refine wpList_load_rowg rfl _ _ rfl w.heap.size rfl 29 jc (0, 0) _ S3.out.1 Tryz.underlying29 rfl HIj.out ?_)
    | (refine wpList_load_rowg rfl _ _ rfl (w.heap.size + 2) rfl 29 kc (0, 0) _ S4.out.2 Tryz.underlying29 rfl HIk.out ?_)
    | (refine wpList_load_rowg rfl _ _ rfl w.heap.size rfl 29 jc (0, 0) _ S5.out.1 Tryz.underlying29 rfl HIj.out ?_)
    | (refine wpList_load_rowg rfl _ _ rfl (w.heap.size + 2) rfl 29 kc (0, 0) _ S6.out.2 Tryz.underlying29 rfl HIk.out ?_)
    | (go_at_call 11; (with_reducible refine (HGj.out _).mono ?_); rintro e w4 ⟨rfl, hB⟩; have S4 := Lib.hid (S3.out.ext hB); have B4 := Lib.hid (B3.out.trans (hB.mono B3.out.size)); clear hB)
    | (go_at_call 11; (with_reducible refine (HGk.out _).mono ?_); rintro e w5 ⟨rfl, hB⟩; have S5 := Lib.hid (S4.out.ext hB); have B5 := Lib.hid (B4.out.trans (hB.mono B4.out.size)); have cj := HC.out _ S5.out; clear hB)
    | (go_at_call 20; (with_reducible refine (HMj.out _ B5.out).mono ?_); rintro e w6 ⟨rfl, hB⟩; have S6 := Lib.hid (S5.out.ext hB); have B6 := Lib.hid (B5.out.trans (hB.mono B5.out.size)); clear hB)
    | (go_at_call 20; (with_reducible refine (HMk.out _ B6.out).mono ?_); rintro e w7 ⟨rfl, hB⟩; have S7 := Lib.hid (S6.out.ext hB); have B7 := Lib.hid (B6.out.trans (hB.mono B6.out.size)); clear hB)
    | (go_at_call 12; (with_reducible refine (HA.out _).mono ?_); rintro e w9 ⟨rfl, hB⟩; have B9 := Lib.hid (B6.out.trans (hB.mono B6.out.size)); clear hB))
    go_ret
    exact ⟨rfl, B9.out⟩
  | true =>
  rw [hmj] at HMj
  cases hmk : mayJ k with
  | false =>
    rw [hmk] at HMk
    clear HPj HPk
    go_wp2_with (first
    | (refine wpList_load_rowg rfl _ _ rfl w.heap.size rfl 29 jc (0, 0) _ S3.out.1 Tryz.underlying29 rfl HIj.out ?_)
    | (refine wpList_load_rowg rfl _ _ rfl (w.heap.size + 2) rfl 29 kc (0, 0) _ S4.out.2 Tryz.underlying29 rfl HIk.out ?_)
    | (refine wpList_load_rowg rfl _ _ rfl w.heap.size rfl 29 jc (0, 0) _ S5.out.1 Tryz.underlying29 rfl HIj.out ?_)
    | (refine wpList_load_rowg rfl _ _ rfl (w.heap.size + 2) rfl 29 kc (0, 0) _ S6.out.2 Tryz.underlying29 rfl HIk.out ?_)
    | (go_at_call 11; (with_reducible refine (HGj.out _).mono ?_); rintro e w4 ⟨rfl, hB⟩; have S4 := Lib.hid (S3.out.ext hB); have B4 := Lib.hid (B3.out.trans (hB.mono B3.out.size)); clear hB)
    | (go_at_call 11; (with_reducible refine (HGk.out _).mono ?_); rintro e w5 ⟨rfl, hB⟩; have S5 := Lib.hid (S4.out.ext hB); have B5 := Lib.hid (B4.out.trans (hB.mono B4.out.size)); have cj := HC.out _ S5.out; clear hB)
    | (go_at_call 20; (with_reducible refine (HMj.out _ B5.out).mono ?_); rintro e w6 ⟨rfl, hB⟩; have S6 := Lib.hid (S5.out.ext hB); have B6 := Lib.hid (B5.out.trans (hB.mono B5.out.size)); clear hB)
    | (go_at_call 20; (with_reducible refine (HMk.out _ B6.out).mono ?_); rintro e w7 ⟨rfl, hB⟩; have S7 := Lib.hid (S6.out.ext hB); have B7 := Lib.hid (B6.out.trans (hB.mono B6.out.size)); clear hB)
    | (go_at_call 12; (with_reducible refine (HA.out _).mono ?_); rintro e w9 ⟨rfl, hB⟩; have B9 := Lib.hid (B7.out.trans (hB.mono B7.out.size)); clear hB))
    go_ret
    exact ⟨rfl, B9.out⟩
  | true =>
  rw [hmk] at HMk
  have hokE := hrd.okEs
  have hlen := ofM_len l
  have HOf := Lib.hid (fun W (h : Below w.heap.size w W) => gof_any l eo ec fp W (by omega) hokE (hrd.ext h))
  by_cases he : (ofM l).2 = 0
  · have hR := of_fit hokE he
    have Hlg := Lib.hid (path_longer (R := (ofM l).1) hmj hmk hsm (by omega) id)
    have Hlj := Lib.hid (show (pathW (ofM l).1 j id).length ≤ 21 by
      unfold pathW
      split
      · have := (walk_pre (ofM l).1 j id j.length [(newJ j id).at_]).2
        rw [List.length_singleton] at this; omega
      · simp)
    have Hlk := Lib.hid (show (pathW (ofM l).1 k id).length ≤ 21 by
      have := (greatW_no hgk).1
      unfold pathW
      split
      · have := (walk_pre (ofM l).1 k id k.length [(newJ k id).at_]).2
        rw [List.length_singleton] at this; omega
      · simp)
    have hjl : j.length ≤ 20 := hg1.1
    have HPj := Lib.hid (fun p W hg hB => HPj.out p (ofM l).1 W hR (by omega) (fun r hr => by have := hlen.1 r hr; omega) _ hg (fun _ h => h) hB hsl)
    have HPk := Lib.hid (fun p W hg hB => HPk.out p (ofM l).1 W hR (by omega) (fun r hr => by have := hlen.1 r hr; omega) _ hg (fun _ h => h) hB hsl)
    obtain ⟨r, hre⟩ : ∃ r, ofM l = r := ⟨_, rfl⟩
    rw [hre] at HOf he Hlg HPj HPk Hlj Hlk
    obtain ⟨R, er⟩ := r
    simp only at he
    subst he
    simp only at Hlg HPj HPk Hlj Hlk
    obtain ⟨A, hA⟩ : ∃ A, pathW R j id = A := ⟨_, rfl⟩
    obtain ⟨C, hC⟩ : ∃ C, pathW R k id = C := ⟨_, rfl⟩
    rw [hA, hC] at Hlg
    rw [hA] at HPj Hlj
    rw [hC] at HPk Hlk
    clear hA hC hR hlen hokE hrd hre hmj hmk hsm hk hj hgk hgj hg1 hlk c4 c1
    go_upto_region 10 with (first
    | (refine wpList_load_rowg rfl _ _ rfl w.heap.size rfl 29 jc (0, 0) _ S3.out.1 Tryz.underlying29 rfl HIj.out ?_)
    | (refine wpList_load_rowg rfl _ _ rfl (w.heap.size + 2) rfl 29 kc (0, 0) _ S4.out.2 Tryz.underlying29 rfl HIk.out ?_)
    | (refine wpList_load_rowg rfl _ _ rfl w.heap.size rfl 29 jc (0, 0) _ S5.out.1 Tryz.underlying29 rfl HIj.out ?_)
    | (refine wpList_load_rowg rfl _ _ rfl (w.heap.size + 2) rfl 29 kc (0, 0) _ S6.out.2 Tryz.underlying29 rfl HIk.out ?_)
    | (go_at_call 11; (with_reducible refine (HGj.out _).mono ?_); rintro e w4 ⟨rfl, hB⟩; have S4 := Lib.hid (S3.out.ext hB); have B4 := Lib.hid (B3.out.trans (hB.mono B3.out.size)); clear hB)
    | (go_at_call 11; (with_reducible refine (HGk.out _).mono ?_); rintro e w5 ⟨rfl, hB⟩; have S5 := Lib.hid (S4.out.ext hB); have B5 := Lib.hid (B4.out.trans (hB.mono B4.out.size)); have cj := HC.out _ S5.out; clear hB)
    | (go_at_call 20; (with_reducible refine (HMj.out _ B5.out).mono ?_); rintro e w6 ⟨rfl, hB⟩; have S6 := Lib.hid (S5.out.ext hB); have B6 := Lib.hid (B5.out.trans (hB.mono B5.out.size)); clear hB)
    | (go_at_call 20; (with_reducible refine (HMk.out _ B6.out).mono ?_); rintro e w7 ⟨rfl, hB⟩; have S7 := Lib.hid (S6.out.ext hB); have B7 := Lib.hid (B6.out.trans (hB.mono B6.out.size)); clear hB)
    | (go_at_call 14; (with_reducible refine (HOf.out _ B7.out).mono ?_); rintro e w8 ⟨p, rfl, _, _, hG, hB⟩; have G8 := Lib.hid (hG.mono (fun b _ hl => hl)); have S8 := Lib.hid (S7.out.ext hB); have B8 := Lib.hid (B7.out.trans (hB.mono B7.out.size)); clear hG hB))
    have HPj2 := Lib.hid (fun W (h : Below w8.heap.size w8 W) => HPj.out p W ((G8.out.ext h).mono (fun b _ hl => hl)) (B8.out.trans (h.mono B8.out.size)))
    have HPk2 := Lib.hid (fun W (h : Below w8.heap.size w8 W) => HPk.out p W ((G8.out.ext h).mono (fun b _ hl => hl)) (B8.out.trans (h.mono B8.out.size)))
    obtain ⟨gv, hgv⟩ : ∃ gv, gV p = gv := ⟨_, rfl⟩
    rw [hgv] at HPj2 HPk2 ⊢
    clear HPj HPk hgv
    refine wp_region_held (S := LRows w.heap.size (w.heap.size + 2) jc kc) (by kernel_rfl) ?_
    have hS0 : LRows w.heap.size (w.heap.size + 2) jc kc w8.drew := S8.out.ext (ext_drew w8)
    change wpAnyH _ _ _ _ _ _ _ _ (World.drew _)
    refine wpAnyH_take (i := 0) (oi := ⟨some 61, _, _, _, _, _⟩) (v := ?_) rfl (by kernel_rfl) (by kernel_rfl) (by kernel_rfl) (fun _ _ _ h => h) (Or.inl ⟨by rfl, ?_⟩) hS0 ?_
    rotate_left
    · (intro w' hSw; clear hSw; go_simp; try (with_reducible rfl))
    simp only [Act.put, List.setIfInBounds_toArray, List.set_cons_zero, List.set_cons_succ]
    refine wpAnyH_take (i := 1) (oi := ⟨some 62, _, _, _, _, _⟩) (v := .agg jc) rfl (by kernel_rfl) (by kernel_rfl) (by kernel_rfl) (fun _ _ _ h => h) (yieldsIf_row22 rfl _ _ rfl (w.heap.size) rfl 29 jc (0, 0) _ (fun _ h => h.1) Tryz.underlying29 rfl HIj.out) hS0 ?_
    simp only [Act.put, List.setIfInBounds_toArray, List.set_cons_zero, List.set_cons_succ]
    refine wpAnyH_take (i := 2) (oi := ⟨some 63, _, _, _, _, _⟩) (v := ?_) rfl (by kernel_rfl) (by kernel_rfl) (by kernel_rfl) (fun _ _ _ h => h) (Or.inl ⟨by rfl, ?_⟩) hS0 ?_
    rotate_left
    · (intro w' hSw; clear hSw; go_simp; try (with_reducible rfl))
    simp only [Act.put, List.setIfInBounds_toArray, List.set_cons_zero, List.set_cons_succ]
    refine wpAnyH_take (i := 4) (oi := ⟨some 65, _, _, _, _, _⟩) (v := ?_) rfl (by kernel_rfl) (by kernel_rfl) (by kernel_rfl) (fun _ _ _ h => h) (Or.inl ⟨by rfl, ?_⟩) hS0 ?_
    rotate_left
    · (intro w' hSw; clear hSw; go_simp; try (with_reducible rfl))
    simp only [Act.put, List.setIfInBounds_toArray, List.set_cons_zero, List.set_cons_succ]
    refine wpAnyH_take (i := 5) (oi := ⟨some 66, _, _, _, _, _⟩) (v := .agg kc) rfl (by kernel_rfl) (by kernel_rfl) (by kernel_rfl) (fun _ _ _ h => h) (yieldsIf_row22 rfl _ _ rfl (w.heap.size + 2) rfl 29 kc (0, 0) _ (fun _ h => h.2) Tryz.underlying29 rfl HIk.out) hS0 ?_
    simp only [Act.put, List.setIfInBounds_toArray, List.set_cons_zero, List.set_cons_succ]
    refine wpAnyH_take (i := 6) (oi := ⟨some 67, _, _, _, _, _⟩) (v := ?_) rfl (by kernel_rfl) (by kernel_rfl) (by kernel_rfl) (fun _ _ _ h => h) (Or.inl ⟨by rfl, ?_⟩) hS0 ?_
    rotate_left
    · (intro w' hSw; clear hSw; go_simp; try (with_reducible rfl))
    simp only [Act.put, List.setIfInBounds_toArray, List.set_cons_zero, List.set_cons_succ]
    refine wpAnyH_all (rs := [3]) (by kernel_rfl) (by simp) ?_
    intro i hi
    rw [List.mem_singleton] at hi
    subst hi
    refine wpOp_runW (o := ⟨some 64, _, _, _, _, _⟩) rfl rfl fun K' hK => ?_
    go_simp
    refine (HPj2.out _ (ext_drew w8)).mono ?_
    rintro e w9 ⟨aa, ac, ag, rfl, ho, _, hB⟩
    have hB9 : Below w8.heap.size w8 w9 := (ext_drew w8).trans (hB.mono (ext_drew w8).size)
    have hS1 := hS0.ext hB
    have HB9 := Lib.hid hB9
    have Ho9 := Lib.hid ho
    clear hS0 hB hB9 ho
    have hS0 := hS1
    clear hS1
    refine hK _ _ ⟨hS0, ?_⟩
    clear hK K'
    try simp only [Act.put, List.setIfInBounds_toArray, List.set_cons_zero, List.set_cons_succ]
    refine wpAnyH_all (rs := [7]) (by kernel_rfl) (by simp) ?_
    intro i hi
    rw [List.mem_singleton] at hi
    subst hi
    refine wpOp_runW (o := ⟨some 68, _, _, _, _, _⟩) rfl rfl fun K' hK => ?_
    go_simp
    refine (HPk2.out _ HB9.out).mono ?_
    rintro e w10 ⟨ba, bc, bg, rfl, ho, _, hB⟩
    have HB10 := Lib.hid (B8.out.trans ((HB9.out.trans (hB.mono HB9.out.size)).mono B8.out.size))
    have hS1 := hS0.ext hB
    have Ho10 := Lib.hid (Ho9.out.ext hB)
    have Hp10 := Lib.hid ho
    clear hS0 hB ho
    have hS0 := hS1
    have S10 := Lib.hid hS1
    clear hS1
    refine hK _ _ ⟨hS0, ?_⟩
    clear hK K'
    try simp only [Act.put, List.setIfInBounds_toArray, List.set_cons_zero, List.set_cons_succ]
    refine wpAnyH_take (i := 8) (oi := ⟨some 16, _, _, _, _, _⟩) (v := ?_) rfl (by kernel_rfl) (by kernel_rfl) (by kernel_rfl) (fun _ _ _ h => h) (Or.inl ⟨by rfl, ?_⟩) hS0 ?_
    rotate_left
    · (intro w' hSw; clear hSw; go_simp; try (with_reducible rfl))
    simp only [Act.put, List.setIfInBounds_toArray, List.set_cons_zero, List.set_cons_succ]
    refine wpAnyH_take (i := 9) (oi := ⟨some 17, _, _, _, _, _⟩) (v := ?_) rfl (by kernel_rfl) (by kernel_rfl) (by kernel_rfl) (fun _ _ _ h => h) (Or.inl ⟨by rfl, ?_⟩) hS0 ?_
    rotate_left
    · (intro w' hSw; clear hSw; go_simp; try (with_reducible rfl))
    simp only [Act.put, List.setIfInBounds_toArray, List.set_cons_zero, List.set_cons_succ]
    refine wpAnyH_done (by kernel_rfl) ?_ _
    have hle := Hlg.out.1.length_le
    have hla := Hlj.out
    have hlc := Hlk.out
    have hcc := Hp10.out.capLe.1
    have HS := Lib.hid (vsame15_any A aa ba ac bc w10 (by omega) Ho10.out.rd (Hp10.out.rd.pre Hlg.out.1))
    have htk := fun W => takeU_run ba C.length bc A.length (by omega) W
    have dl : decide ((A.length : Int) ≤ (C.length : Int)) = true := by simp; omega
    have dl' : decide (A.length ≤ C.length) = true := by simp; omega
    clear hS0 HPj2 HPk2 HMj HMk HGj HGk HOf G8 Hlj Hlk
    have hlg := Hlg.out.2
    clear Hlg Ho10 Hp10 Ho9
    obtain ⟨na, hna⟩ : ∃ na, A.length = na := ⟨_, rfl⟩
    obtain ⟨nc, hnc⟩ : ∃ nc, C.length = nc := ⟨_, rfl⟩
    rw [hna] at hle hla HS htk dl dl' hlg ⊢
    rw [hnc] at hle hlc htk dl dl' hlg hcc ⊢
    clear hna hnc
    by_cases heq : na = nc
    · have e1 : ((na : Int) == (nc : Int)) = true := by simp; omega
      have e1' : (na == nc) = true := by simp; omega
      subst heq
      clear hlg hle
      go_wp2_with (first
        | (go_at_call 15; (with_reducible refine HS.out.mono ?_); rintro e w11 ⟨rfl, m, rfl⟩; have B11 := Lib.hid (HB10.out.trans ((ext_drewN w10 m).mono HB10.out.size)); have cj := HC.out _ (S10.out.ext (ext_drewN w10 m)))
        | (go_at_call 12; (with_reducible refine (HA.out _).mono ?_); rintro e w12 ⟨rfl, hB⟩; have B12 := Lib.hid (B11.out.trans (hB.mono B11.out.size)); clear hB))
      go_ret
      exact ⟨rfl, B12.out⟩
    · have e1 : ((na : Int) == (nc : Int)) = false := by simp; omega
      have e1' : (na == nc) = false := by simp; omega
      have h2 := hlg.resolve_left heq
      have e2 : ((na : Int) == (j.length : Int) + 1) = true := by simp; omega
      have e2' : (na == j.length + 1) = true := by simp; omega
      clear hlg h2 hle
      go_wp2_with (first
        | (go_at_call 15; (with_reducible refine HS.out.mono ?_); rintro e w11 ⟨rfl, m, rfl⟩; have B11 := Lib.hid (HB10.out.trans ((ext_drewN w10 m).mono HB10.out.size)); have cj := HC.out _ (S10.out.ext (ext_drewN w10 m)))
        | (go_at_call 12; (with_reducible refine (HA.out _).mono ?_); rintro e w12 ⟨rfl, hB⟩; have B12 := Lib.hid (B11.out.trans (hB.mono B11.out.size)); clear hB))
      go_ret
      exact ⟨rfl, B12.out⟩
  · obtain ⟨r, hre⟩ : ∃ r, ofM l = r := ⟨_, rfl⟩
    rw [hre] at HOf he
    obtain ⟨R, er⟩ := r
    simp only at he
    have de : ((er : Int) != 0) = true := by simp; omega
    have de' : (er != 0) = true := by simp; omega
    clear HPj HPk hlen hokE hrd hre
    go_wp2_with (first
    | (refine wpList_load_rowg rfl _ _ rfl w.heap.size rfl 29 jc (0, 0) _ S3.out.1 Tryz.underlying29 rfl HIj.out ?_)
    | (refine wpList_load_rowg rfl _ _ rfl (w.heap.size + 2) rfl 29 kc (0, 0) _ S4.out.2 Tryz.underlying29 rfl HIk.out ?_)
    | (refine wpList_load_rowg rfl _ _ rfl w.heap.size rfl 29 jc (0, 0) _ S5.out.1 Tryz.underlying29 rfl HIj.out ?_)
    | (refine wpList_load_rowg rfl _ _ rfl (w.heap.size + 2) rfl 29 kc (0, 0) _ S6.out.2 Tryz.underlying29 rfl HIk.out ?_)
    | (go_at_call 11; (with_reducible refine (HGj.out _).mono ?_); rintro e w4 ⟨rfl, hB⟩; have S4 := Lib.hid (S3.out.ext hB); have B4 := Lib.hid (B3.out.trans (hB.mono B3.out.size)); clear hB)
    | (go_at_call 11; (with_reducible refine (HGk.out _).mono ?_); rintro e w5 ⟨rfl, hB⟩; have S5 := Lib.hid (S4.out.ext hB); have B5 := Lib.hid (B4.out.trans (hB.mono B4.out.size)); have cj := HC.out _ S5.out; clear hB)
    | (go_at_call 20; (with_reducible refine (HMj.out _ B5.out).mono ?_); rintro e w6 ⟨rfl, hB⟩; have S6 := Lib.hid (S5.out.ext hB); have B6 := Lib.hid (B5.out.trans (hB.mono B5.out.size)); clear hB)
    | (go_at_call 20; (with_reducible refine (HMk.out _ B6.out).mono ?_); rintro e w7 ⟨rfl, hB⟩; have S7 := Lib.hid (S6.out.ext hB); have B7 := Lib.hid (B6.out.trans (hB.mono B6.out.size)); clear hB)
    | (go_at_call 14; (with_reducible refine (HOf.out _ B7.out).mono ?_); rintro e w8 ⟨p, rfl, _, _, hG, hB⟩; have B8 := Lib.hid (B7.out.trans (hB.mono B7.out.size)); clear hG hB)
    | (go_at_call 12; (with_reducible refine (HA.out _).mono ?_); rintro e w9 ⟨rfl, hB⟩; have B9 := Lib.hid (B8.out.trans (hB.mono B8.out.size)); clear hB))
    go_ret
    exact ⟨rfl, B9.out⟩
end Go.Proofs.YtcklfffeimnfeaaGreat
