/- palmerlaw12: awake, EdgeOnes, EdgeReads: the walks. -/
import Derived.Test.YtafbjkbdfdeacaaEdgeRef2
import Derived.Lib.SlBytesConst
namespace Go.Proofs.Ytafbjkbdfdeacaa
set_option linter.unusedSimpArgs false
set_option linter.unusedVariables false
open Go.RowKit

theorem rd_const (w : World) (C : Array Value) (e : TypeId) (fr : Nat × Nat) (l : List UInt8) (h : C = (byteVals l).toArray) : Rd (w.alloc (.cells C e fr)) (some ⟨w.heap.size, 0, none⟩) l.length (byteVals l) := by
  subst h
  refine ⟨by simp [byteVals], .inr ⟨w.heap.size, 0, rfl, by simp, fun j _ => ?_⟩⟩
  rw [Nat.zero_add, World.cell?_alloc_mark]
  simp
def awakeB : List UInt8 := [49, 32, 50, 10, 35, 32, 97, 32, 110, 111, 116, 101, 10, 51, 32, 52, 32, 53, 10]
theorem awake_read : readE (lines awakeB) = ([(1, 2, 1), (3, 4, 5)], 0, 0) := by decide +kernel

set_option maxRecDepth 100000 in
set_option maxHeartbeats 1600000 in
theorem awake12_any (w : World) : Calls Try.prog 29 #[] w fun e w' => e = .returned (.bool true) ∧ Below w.heap.size w w' := by
  have hR : ∀ ao cap W, Rd W ao 19 (byteVals awakeB) → 19 ≤ cap → cap ≤ maxLen → Calls Try.prog 32 #[.slice ao 19 cap] W (EReadRet ([(1, 2, 1), (3, 4, 5)], 0, 0) W) := fun ao cap W h h2 h3 => by
    have := eread_any awakeB (by decide) ao cap W h h2 h3
    rw [awake_read] at this; exact this
  have kc := fun (w : World) (C : Array Value) (n c : Nat) => Lib.run_convert_bytes_const (P := Try.prog) w 25 5 C n c Try.underlying25 Try.underlying5
  have HR := Lib.hid hR
  clear hR
  go_enter Try.func29, Try.ntmps29
  go_wp2_with (go_at_call 32; refine (HR.out _ _ _ (rd_const _ _ _ _ awakeB rfl) (by omega) (by simp [maxLen])).mono ?_; rintro e w3 ⟨a3, c3, rfl, h3, h4, hr3, hB3⟩; obtain ⟨b3, o3, rfl, hb3, x0, x1, x2, _⟩ := hr3.edge 0 (by simp); obtain ⟨_, _, e3, _, y0, y1, y2, _⟩ := hr3.edge 1 (by simp); cases e3; simp at x0 x1 x2 y0 y1 y2; have HB3 := Lib.hid hB3; clear hB3 hr3 h3 h4)
  go_ret
  exact ⟨rfl, (ext_alloc w _).trans (HB3.out.mono (by simp))⟩

set_option maxRecDepth 100000 in
set_option maxHeartbeats 1600000 in
theorem edgeOnes_walk (l : List UInt8) (w : World) : Calls Try.prog 8 #[.string (bs l)] w fun e w' => e = .returned (.bool true) ∧ Below w.heap.size w w' := by
  have hsz : ((bs l).size : Int) = (l.length : Int) := by rw [bs_size]
  by_cases hl : 3000 < l.length
  · have hd : decide ((3000 : Int) < ((bs l).size : Int)) = true := by rw [hsz]; simp; omega
    have hd' : decide (3000 < (bs l).size) = true := by rw [bs_size]; simpa using hl
    clear hsz
    go_enter Try.func8, Try.ntmps8
    go_wp2_with (go_at_call 29; refine (awake12_any _).mono ?_; rintro e w1 ⟨rfl, hB1⟩)
    go_ret
    exact ⟨rfl, hB1⟩
  · have hd : decide ((3000 : Int) < ((bs l).size : Int)) = false := by rw [hsz]; simp; omega
    have hd' : decide (3000 < (bs l).size) = false := by rw [bs_size]; simpa using hl
    have h1 : ∀ W : World, Calls Try.prog 30 #[.string (bs l)] W (fun e w' => e = .returned (.tuple #[edgeV (oneE l).1, .bool (oneE l).2.1, .int .i64 ((oneE l).2.2 : Nat)]) ∧ Below W.heap.size W w') := fun W => one_any l (by omega) W
    have h2 : ∀ W : World, Calls Try.prog 31 #[.string (bs l)] W (fun e w' => e = .returned (.tuple #[edgeV (oneE l).1, .bool (oneE l).2.1, .int .i64 ((oneE l).2.2 : Nat)]) ∧ Below W.heap.size W w') := fun W => rone_any l (by omega) W
    generalize oneE l = r at h1 h2
    obtain ⟨⟨x0, x1, x2⟩, is, er⟩ := r
    simp only [edgeV] at h1 h2
    have hee : ((er : Int) == er) = true := by simp
    have H1 := Lib.hid h1
    have H2 := Lib.hid h2
    clear h1 h2 hsz
    go_enter Try.func8, Try.ntmps8
    go_wp2_with (first
      | (go_at_call 30; refine (H1.out _).mono ?_; rintro e w1 ⟨rfl, hB1⟩; have HB1 := Lib.hid hB1; clear hB1)
      | (go_at_call 31; refine (H2.out _).mono ?_; rintro e w2 ⟨rfl, hB2⟩; have k0 := ((bcell hB2).1 w1.heap.size 0 (by simp)).trans (show _ = some (Value.int .u32 (x0 : Nat)) by simp [go_sem]); have k1 := ((bcell hB2).1 w1.heap.size 1 (by simp)).trans (show _ = some (Value.int .u32 (x1 : Nat)) by simp [go_sem]); have k2 := ((bcell hB2).1 w1.heap.size 2 (by simp)).trans (show _ = some (Value.int .u32 (x2 : Nat)) by simp [go_sem]); have hz2 := hB2.size; simp at hz2; have hnw : ¬ w1.heap.size = w2.heap.size := (by omega); have HB2 := Lib.hid hB2; clear hB2)
      | (go_at_call 29; refine (awake12_any _).mono ?_; rintro e w3 ⟨rfl, hB3⟩))
    go_ret
    exact ⟨rfl, ext_trans (ext_trans (ext_trans (ext_trans HB1.out (ext_alloc w1 _)) HB2.out) (ext_alloc w2 _)) hB3⟩

set_option maxRecDepth 100000 in
set_option maxHeartbeats 1600000 in
theorem edgeReads_walk (l : List UInt8) (ao : Option Addr) (cap : Nat) (w : World) (hrd : Rd w ao l.length (byteVals l)) (hcap : l.length ≤ cap) (hcm : cap ≤ maxLen) :
    Calls Try.prog 9 #[.slice ao l.length cap] w fun e w' => e = .returned (.bool true) ∧ Below w.heap.size w w' := by
  by_cases hl : 3000 < l.length
  · have hd : decide ((3000 : Int) < l.length) = true := by simp; omega
    clear hrd
    go_enter Try.func9, Try.ntmps9
    go_wp2_with (go_at_call 29; refine (awake12_any _).mono ?_; rintro e w1 ⟨rfl, hB1⟩)
    go_ret
    exact ⟨rfl, hB1⟩
  · have hd : decide ((3000 : Int) < l.length) = false := by simp; omega
    have hR1 := eread_any l (by omega) ao cap w hrd hcap hcm
    have hR2 := fun (W : World) (hB : Below w.heap.size w W) => eref_any l (by omega) ao cap W (hrd.ext hB)
    have hz : (readE (lines l)).1.length ≤ l.length := by
      have := lines_len l
      rcases readE_shift (lines l) [] 0 with ⟨_, _, _, h⟩ | ⟨_, h, _⟩
      · omega
      · rw [h]; simp
    generalize readE (lines l) = r at hR1 hR2 hz
    obtain ⟨L, n, er⟩ := r
    simp only at hz
    have hlen : L.length ≤ 1073741824 := by omega
    have hee : ((er : Int) == er) = true := by simp
    have hnn : ((n : Int) == n) = true := by simp
    have HR1 := Lib.hid hR1
    have HR2 := Lib.hid hR2
    clear hR1 hR2 hz hrd
    go_enter Try.func9, Try.ntmps9
    go_wp2_with (first
      | (go_at_call 32; refine HR1.out.mono ?_; rintro e w1 ⟨a1, c1, rfl, h1, h2, hr1, hB1⟩; have Hr1 := Lib.hid hr1; have HB1 := Lib.hid hB1; clear h1 h2 hr1 hB1)
      | (go_at_call 33; refine (HR2.out _ HB1.out).mono ?_; rintro e w2 ⟨a2, c2, rfl, h1, h2, hr2, hB2⟩; have Hr2 := Lib.hid hr2; have HB2 := Lib.hid hB2; clear h1 h2 hr2 hB2)
      | (go_at_call 34; refine (esame_any L a1 a2 c1 c2 _ _ _ hlen (Hr1.out.ext HB2.out) Hr2.out).mono ?_; rintro e w3 ⟨rfl, hB3⟩; have HB3 := Lib.hid hB3; clear hB3)
      | (go_at_call 29; refine (awake12_any _).mono ?_; rintro e w4 ⟨rfl, hB4⟩))
    go_ret
    exact ⟨rfl, ext_trans (ext_trans (ext_trans HB1.out HB2.out) HB3.out) hB4⟩
end Go.Proofs.Ytafbjkbdfdeacaa
