/- The reference's lines. -/
import Derived.Test.YtafbjkbdfdeacaaTextPutsW
namespace Go.Proofs.Ytafbjkbdfdeacaa
set_option linter.unusedSimpArgs false
set_option linter.unusedVariables false
open Go.RowKit

theorem linesGo_len : ∀ (l w : List UInt8), (linesGo w l).length ≤ l.length + 1 ∧ (w = [] → (linesGo w l).length ≤ l.length)
  | [], w => by unfold linesGo; split <;> simp_all
  | c :: l, w => by
    unfold linesGo
    have h1 := linesGo_len l []
    have h2 := linesGo_len l (w ++ [c])
    simp only [List.length_cons]
    refine ⟨?_, fun h => ?_⟩
    · split
      · simp only [List.length_cons]; have := h1.2 rfl; omega
      · omega
    · subst h
      split
      · simp only [List.length_cons]; have := h1.2 rfl; omega
      · simp at h2 ⊢; omega
theorem lines_len (l : List UInt8) : (lines l).length ≤ l.length := (linesGo_len l []).2 rfl

def refLRel (l : List UInt8) (w : World) (o wd i : Value) (wr : World) : Prop :=
  ∃ (k : Nat) (O : List (List UInt8)) (W : List UInt8) (ao : Option Addr) (cap : Nat) (g : Option Nat) (aw : Option Addr) (capw : Nat) (gw : Option Nat),
    k ≤ l.length ∧ i = .int .i64 k ∧ o = .slice ao O.length cap ∧ wd = .slice aw W.length capw ∧ lines l = O ++ linesGo W (l.drop k) ∧ O.length ≤ k ∧ W.length ≤ k ∧
    Own wr ao cap g 9 1 O.length (strCells O) ∧ Own wr aw capw gw 5 1 W.length (byteVals W) ∧ (∀ b, g = some b → gw ≠ some b) ∧
    (∀ b, g = some b → w.heap.size ≤ b) ∧ (∀ b, gw = some b → w.heap.size ≤ b) ∧ Below w.heap.size w wr

set_option maxRecDepth 100000 in
set_option maxHeartbeats 1600000 in
theorem rlines_any (l : List UInt8) (hl : l.length ≤ 1073741824) (ao0 : Option Addr) (cap0 : Nat) (w : World) (hr : Rd w ao0 l.length (byteVals l)) :
    Calls Try.prog 56 #[.slice ao0 l.length cap0] w (RetOwn 9 1 (lines l).length (strCells (lines l)) w) := by
  have hE := strsElem
  have hEb := bytesElem
  have Hr := Lib.hid hr
  clear hr
  go_enter Try.func56, Try.ntmps56
  go_wp2_with fail
  go_loopw [3, 4, 5, 10] (fun o wd _ i wr => refLRel l w o wd i wr) (fun _ _ _ i _ => l.length - (intOf i).toNat)
  case atStart =>
    refine ⟨0, [], [], _, _, some w.heap.size, _, _, some (w.heap.size + 1), by omega, rfl, rfl, rfl, rfl, by simp, by simp, (Own.empty w _ _).alloc _, Own.emptyAt _ _ _ _ (by simp), ?_, ?_, ?_, ?_⟩
    · intro b h; cases h; simp
    · intro b h; cases h; omega
    · intro b h; cases h; omega
    · exact (ext_alloc w _).alloc (by simp) _
  case round =>
    obtain ⟨k, O, W, ao, cap, g, aw, capw, gw, hk, rfl, rfl, rfl, hw, hO, hW, ho, how, hgg, hg1, hg2, hB⟩ := hrel
    have hconv := fun o => run_string_own (P := Try.prog) (src := 25) (dst := 9) Try.underlying25 Try.underlying5 Try.underlying9 (how.alloc o)
    have hconv0 := run_string_own (P := Try.prog) (src := 25) (dst := 9) Try.underlying25 Try.underlying5 Try.underlying9 how
    have Hw := Lib.hid hw
    have Hg := Lib.hid hgg
    have Hg1 := Lib.hid hg1
    have Hg2 := Lib.hid hg2
    have HB := Lib.hid hB
    have hrd := Hr.out.ext hB
    clear hw hgg hg1 hg2 hB
    by_cases hlt : k < l.length
    · obtain ⟨b0, off0, hao0, hb0, hc0⟩ := hrd.pos (by omega)
      have hcell := hc0 k hlt
      simp only [byteVals, List.getElem?_map, List.getElem?_eq_getElem hlt, Option.map_some] at hcell
      have hdrop : l.drop k = l[k] :: l.drop (k + 1) := List.drop_eq_getElem_cons hlt
      have hir : (k : Int) < (l.length : Int) := by omega
      generalize hc : l[k] = c at hcell hdrop
      subst hao0
      have Hd := Lib.hid hdrop
      clear hc hdrop hc0 hrd
      have n10 := eqB c 10 10 rfl
      cases hsp : c == 10 with
      | false =>
        rw [hsp] at n10
        have Hsp := Lib.hid hsp
        clear hsp
        go_wp2_with (at_builtin; refine wpList_app rfl (.tmp 24) (.tmp 29) 25 25 rfl hEb (how.alloc _) rfl rfl (srcOne Try.underlying25 _ _ _ _ rfl) (by simp [maxLen]; omega) (by omega) ?_; intro ao' cap' g' w1 ho' hg' hon)
        go_roundw
        case rel =>
          refine ⟨k + 1, O, W ++ [c], ao, cap, g, ao', cap', g', by omega, by go_num, rfl, by simp, ?_, by omega, by simp; omega, (ho.alloc _).only hon (fun b h e => Hg.out b h e), by simpa [byteVals] using ho', ?_, Hg1.out, ?_, ?_⟩
          · rw [Hw.out, Hd.out, linesGo, Hsp.out]; rfl
          · intro b h e
            rcases hg' with rfl | rfl
            · exact Hg.out b h e
            · cases e; have := ho.lt _ h; simp at this; omega
          · intro b h
            rcases hg' with rfl | rfl
            · exact Hg2.out b h
            · cases h; have := HB.out.size; simp; omega
          · exact (HB.out.alloc HB.out.size _).trans (hon.below (by have := HB.out.size; simp; omega) (fun k hk e => by have := Hg2.out k e; omega))
        case measure => simp [intOf]; omega
      | true =>
        rw [hsp] at n10
        have Hsp := Lib.hid hsp
        clear hsp hconv
        have fin : ∀ (ao' : Option Addr) (cap' : Nat) (g' : Option Nat) (w1 : World) (ob : Obj), Own w1 ao' cap' g' 9 1 (O.length + 1) (strCells O ++ [.string (bs W)]) → (g' = g ∨ g' = some (wr.alloc ob).heap.size) → Only (fun k => g = some k) (wr.alloc ob) w1 →
            Hid (refLRel l w (Value.slice ao' (O.length + 1) cap') (Value.slice (some ⟨w1.heap.size, 0, none⟩) 0 0) (Value.int IntKind.i64 ((k : Int) + 1)) (w1.alloc (.cells #[] 5))) := fun ao' cap' g' w1 ob ho' hg' hon => by
          have hsz1 : w.heap.size ≤ wr.heap.size := HB.out.size
          have hsz2 := hon.size
          simp only [World.size_alloc] at hsz2
          refine ⟨k + 1, O ++ [W], [], ao', cap', g', _, _, some w1.heap.size, by omega, by go_num, by simp, rfl, ?_, by simp; omega, by simp, by simpa [strCells] using ho'.alloc _, Own.empty _ _ _, ?_, ?_, ?_, ?_⟩
          · rw [Hw.out, Hd.out, linesGo, Hsp.out]; simp
          · intro b h e; cases e; have := ho'.lt _ h; omega
          · intro b h
            rcases hg' with rfl | rfl
            · exact Hg1.out b h
            · cases h; simp; omega
          · intro b h; cases h; omega
          · exact ((HB.out.alloc hsz1 _).trans (hon.below (by simp; omega) (fun k hk e => by have := Hg1.out k e; omega))).alloc (by omega) _
        go_wp2_with (at_builtin; refine wpList_app rfl (.tmp 18) (.tmp 21) 73 73 rfl hE (ho.alloc _) rfl rfl (srcOne Try.underlying73 _ _ _ _ rfl) (by simp [maxLen]; omega) (by omega) ?_; intro ao' cap' g' w1 ho' hg' hon)
        go_roundw
        case rel => exact (fin ao' cap' g' w1 _ ho' hg' hon).out
        case measure => simp [intOf]; omega
    · obtain rfl : k = l.length := by omega
      have hwf : lines l = O ++ (if W = [] then [] else [W]) := by rw [Hw.out, List.drop_length, linesGo]
      clear hrd
      by_cases hW0 : W = []
      · subst hW0
        simp only [if_true, List.append_nil] at hwf
        have Hwf := Lib.hid hwf
        clear hwf hconv hconv0
        go_wp2_with fail
        go_ret
        exact ⟨ao, cap, g, by rw [Hwf.out]; rfl, by rw [Hwf.out]; exact ho, Hg1.out, HB.out⟩
      · rw [if_neg hW0] at hwf
        have hWp : 0 < W.length := List.length_pos_iff.2 hW0
        have Hwf := Lib.hid hwf
        clear hwf hconv hW0
        go_wp2_with (at_builtin; refine wpList_app rfl (.tmp 35) (.tmp 38) 73 73 rfl hE (ho.alloc _) rfl rfl (srcOne Try.underlying73 _ _ _ _ rfl) (by simp [maxLen]; omega) (by omega) ?_; intro ao' cap' g' w1 ho' hg' hon)
        go_ret
        have hsz1 : w.heap.size ≤ wr.heap.size := HB.out.size
        refine ⟨ao', cap', g', by rw [Hwf.out]; simp, by rw [Hwf.out]; simpa [strCells] using ho', ?_, (HB.out.alloc hsz1 _).trans (hon.below (by simp; omega) (fun k hk e => by have := Hg1.out k e; omega))⟩
        intro b h
        rcases hg' with rfl | rfl
        · exact Hg1.out b h
        · cases h; simp; omega
end Go.Proofs.Ytafbjkbdfdeacaa
