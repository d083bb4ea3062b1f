/- The reference's words. -/
import Derived.Test.YtafbjkbdfdeacaaTextWords
namespace Go.Proofs.Ytafbjkbdfdeacaa
set_option linter.unusedSimpArgs false
set_option linter.unusedVariables false
open Go.RowKit

theorem bytesElem : Elem Try.prog 25 5 1 1 (.int .u8 0) := Elem.mk' Try.underlying25 (by kernel_rfl) rfl (by decide)

def refWRel (l : List UInt8) (w : World) (o wd i : Value) (wr : World) : Prop :=
  ∃ (k : Nat) (O : List (List UInt8)) (W : List UInt8) (ao : Option Addr) (cap : Nat) (g : Option Nat) (aw : Option Addr) (capw : Nat) (gw : Option Nat),
    k ≤ l.length ∧ i = .int .i64 k ∧ o = .slice ao O.length cap ∧ wd = .slice aw W.length capw ∧ words l = O ++ wordsGo W (l.drop k) ∧ O.length ≤ k ∧ W.length ≤ k ∧
    Own wr ao cap g 9 1 O.length (strCells O) ∧ Own wr aw capw gw 5 1 W.length (byteVals W) ∧ (∀ b, g = some b → gw ≠ some b) ∧
    (∀ b, g = some b → w.heap.size ≤ b) ∧ (∀ b, gw = some b → w.heap.size ≤ b) ∧ Below w.heap.size w wr

set_option maxRecDepth 100000 in
set_option maxHeartbeats 1600000 in
theorem rwords_any (l : List UInt8) (hl : l.length ≤ 1073741824) (w : World) :
    Calls Try.prog 53 #[.string (bs l)] w (RetOwn 9 1 (words l).length (strCells (words l)) w) := by
  have hE := strsElem
  have hEb := bytesElem
  have hsz := bs_size l
  go_enter Try.func53, Try.ntmps53
  go_wp2_with fail
  go_loopw [3, 4, 5] (fun o wd i wr => refWRel l w o wd i wr) (fun _ _ i _ => l.length - (intOf i).toNat)
  case atStart =>
    refine ⟨0, [], [], _, _, some w.heap.size, _, _, some (w.heap.size + 1), by omega, rfl, rfl, rfl, rfl, by simp, by simp, (Own.empty w _ _).alloc _, Own.emptyAt _ _ _ _ (by simp), ?_, ?_, ?_, ?_⟩
    · intro b h; cases h; simp
    · intro b h; cases h; omega
    · intro b h; cases h; omega
    · exact (ext_alloc w _).alloc (by simp) _
  case round =>
    obtain ⟨k, O, W, ao, cap, g, aw, capw, gw, hk, rfl, rfl, rfl, hw, hO, hW, ho, how, hgg, hg1, hg2, hB⟩ := hrel
    have hconv := fun o => run_string_own (P := Try.prog) (src := 25) (dst := 9) Try.underlying25 Try.underlying5 Try.underlying9 (how.alloc o)
    have hconv0 := run_string_own (P := Try.prog) (src := 25) (dst := 9) Try.underlying25 Try.underlying5 Try.underlying9 how
    have Hw := Lib.hid hw
    have Hg := Lib.hid hgg
    have Hg1 := Lib.hid hg1
    have Hg2 := Lib.hid hg2
    have HB := Lib.hid hB
    clear hw hgg hg1 hg2 hB
    by_cases hlt : k < l.length
    · have hget := bs_get l k (by rw [bs_size]; exact hlt)
      have hdrop : l.drop k = l[k] :: l.drop (k + 1) := List.drop_eq_getElem_cons hlt
      generalize hc : l[k] = c at hget hdrop
      have Hd := Lib.hid hdrop
      clear hc hdrop
      have n32 := neB c 32 32 rfl
      have n9 := neB c 9 9 rfl
      cases hsp : isSp c with
      | false =>
        obtain ⟨n1, n2⟩ := (isSp_or c).1 hsp
        rw [n1] at n32
        rw [n2] at n9
        simp only [Bool.not_false] at n32 n9
        have Hsp := Lib.hid hsp
        clear hsp n1 n2
        go_wp2_with (at_builtin; refine wpList_app rfl (.tmp 24) (.tmp 28) 25 25 rfl hEb (how.alloc _) rfl rfl (srcOne Try.underlying25 _ _ _ _ rfl) (by simp [maxLen]; omega) (by omega) ?_; intro ao' cap' g' w1 ho' hg' hon)
        go_roundw
        case rel =>
          refine ⟨k + 1, O, W ++ [c], ao, cap, g, ao', cap', g', by omega, by go_num, rfl, by simp, ?_, by omega, by simp; omega, (ho.alloc _).only hon (fun b h e => Hg.out b h e), by simpa [byteVals] using ho', ?_, Hg1.out, ?_, ?_⟩
          · rw [Hw.out, Hd.out, wordsGo, Hsp.out]; rfl
          · intro b h e
            rcases hg' with rfl | rfl
            · exact Hg.out b h e
            · cases e; have := ho.lt _ h; simp at this; omega
          · intro b h
            rcases hg' with rfl | rfl
            · exact Hg2.out b h
            · cases h; have := HB.out.size; simp; omega
          · exact (HB.out.alloc HB.out.size _).trans (hon.below (by have := HB.out.size; simp; omega) (fun k hk e => by have := Hg2.out k e; omega))
        case measure => simp [intOf]; omega
      | true =>
        have Hsp := Lib.hid hsp
        have hor : (c == 32) = true ∨ (c == 32) = false ∧ (c == 9) = true := by
          cases h1 : c == 32 with
          | true => exact .inl rfl
          | false =>
            cases h2 : c == 9 with
            | true => exact .inr ⟨rfl, rfl⟩
            | false => have := (isSp_or c).2 ⟨h1, h2⟩; rw [this] at hsp; cases hsp
        clear hsp
        by_cases hW0 : W = []
        · subst hW0
          have hrel2 : Hid (refWRel l w (Value.slice ao O.length cap) (Value.slice aw 0 capw) (Value.int IntKind.i64 ((k : Int) + 1)) wr) :=
            ⟨k + 1, O, [], ao, cap, g, aw, capw, gw, by omega, by go_num, rfl, rfl, by rw [Hw.out, Hd.out, wordsGo, Hsp.out]; rfl, by omega, by simp, ho, how, Hg.out, Hg1.out, Hg2.out, HB.out⟩
          clear hconv hconv0
          rcases hor with h1 | ⟨h1, h2⟩
          · rw [h1] at n32
            simp only [Bool.not_true] at n32
            clear h1 n9
            go_wp2_with fail
            go_roundw
            case rel => exact hrel2.out
            case measure => simp [intOf]; omega
          · rw [h1] at n32
            rw [h2] at n9
            simp only [Bool.not_true, Bool.not_false] at n32 n9
            clear h1 h2
            go_wp2_with fail
            go_roundw
            case rel => exact hrel2.out
            case measure => simp [intOf]; omega
        · have hWp : 0 < W.length := List.length_pos_iff.2 hW0
          have fin : ∀ (ao' : Option Addr) (cap' : Nat) (g' : Option Nat) (w1 : World) (ob : Obj), Own w1 ao' cap' g' 9 1 (O.length + 1) (strCells O ++ [.string (bs W)]) → (g' = g ∨ g' = some (wr.alloc ob).heap.size) → Only (fun k => g = some k) (wr.alloc ob) w1 →
              Hid (refWRel l w (Value.slice ao' (O.length + 1) cap') (Value.slice (some ⟨w1.heap.size, 0, none⟩) 0 0) (Value.int IntKind.i64 ((k : Int) + 1)) (w1.alloc (.cells #[] 5))) := fun ao' cap' g' w1 ob ho' hg' hon => by
            have hsz1 : w.heap.size ≤ wr.heap.size := HB.out.size
            have hsz2 := hon.size
            simp only [World.size_alloc] at hsz2
            refine ⟨k + 1, O ++ [W], [], ao', cap', g', _, _, some w1.heap.size, by omega, by go_num, by simp, rfl, ?_, by simp; omega, by simp, by simpa [strCells] using ho'.alloc _, Own.empty _ _ _, ?_, ?_, ?_, ?_⟩
            · rw [Hw.out, Hd.out, wordsGo, Hsp.out]; simp [hW0]
            · intro b h e; cases e; have := ho'.lt _ h; omega
            · intro b h
              rcases hg' with rfl | rfl
              · exact Hg1.out b h
              · cases h; simp; omega
            · intro b h; cases h; omega
            · exact ((HB.out.alloc hsz1 _).trans (hon.below (by simp; omega) (fun k hk e => by have := Hg1.out k e; omega))).alloc (by omega) _
          clear hW0
          have hconv2 := hconv0
          rcases hor with h1 | ⟨h1, h2⟩
          · rw [h1] at n32
            simp only [Bool.not_true] at n32
            clear h1 n9 hconv
            go_wp2_with (at_builtin; refine wpList_app rfl (.tmp 33) (.tmp 36) 73 73 rfl hE (ho.alloc _) rfl rfl (srcOne Try.underlying73 _ _ _ _ rfl) (by simp [maxLen]; omega) (by omega) ?_; intro ao' cap' g' w1 ho' hg' hon)
            go_roundw
            case rel => exact (fin ao' cap' g' w1 _ ho' hg' hon).out
            case measure => simp [intOf]; omega
          · rw [h1] at n32
            rw [h2] at n9
            simp only [Bool.not_true, Bool.not_false] at n32 n9
            clear h1 h2 hconv
            go_wp2_with (at_builtin; refine wpList_app rfl (.tmp 33) (.tmp 36) 73 73 rfl hE (ho.alloc _) rfl rfl (srcOne Try.underlying73 _ _ _ _ rfl) (by simp [maxLen]; omega) (by omega) ?_; intro ao' cap' g' w1 ho' hg' hon)
            go_roundw
            case rel => exact (fin ao' cap' g' w1 _ ho' hg' hon).out
            case measure => simp [intOf]; omega
    · obtain rfl : k = l.length := by omega
      have hwf : words l = O ++ (if W = [] then [] else [W]) := by rw [Hw.out, List.drop_length, wordsGo]
      by_cases hW0 : W = []
      · subst hW0
        simp only [if_true, List.append_nil] at hwf
        have Hwf := Lib.hid hwf
        clear hwf hconv hconv0
        go_wp2_with fail
        go_ret
        exact ⟨ao, cap, g, by rw [Hwf.out]; rfl, by rw [Hwf.out]; exact ho, Hg1.out, HB.out⟩
      · rw [if_neg hW0] at hwf
        have hWp : 0 < W.length := List.length_pos_iff.2 hW0
        have Hwf := Lib.hid hwf
        clear hwf hconv hW0
        go_wp2_with (at_builtin; refine wpList_app rfl (.tmp 42) (.tmp 45) 73 73 rfl hE (ho.alloc _) rfl rfl (srcOne Try.underlying73 _ _ _ _ rfl) (by simp [maxLen]; omega) (by omega) ?_; intro ao' cap' g' w1 ho' hg' hon)
        go_ret
        have hsz1 : w.heap.size ≤ wr.heap.size := HB.out.size
        refine ⟨ao', cap', g', by rw [Hwf.out]; simp, by rw [Hwf.out]; simpa [strCells] using ho', ?_, (HB.out.alloc hsz1 _).trans (hon.below (by simp; omega) (fun k hk e => by have := Hg1.out k e; omega))⟩
        intro b h
        rcases hg' with rfl | rfl
        · exact Hg1.out b h
        · cases h; simp; omega
end Go.Proofs.Ytafbjkbdfdeacaa
