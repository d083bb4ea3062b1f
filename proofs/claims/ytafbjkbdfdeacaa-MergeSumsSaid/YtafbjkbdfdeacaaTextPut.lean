/- text.Put and the reference's Put. -/
import Derived.Test.YtafbjkbdfdeacaaTextLawW
import Derived.Laws.Concat
namespace Go.Proofs.Ytafbjkbdfdeacaa
set_option linter.unusedSimpArgs false
set_option linter.unusedVariables false
open Go.RowKit

theorem digits_step (n : Nat) : if n / 10 = 0 then digits n = [UInt8.ofNat (48 + n % 10)] else digits n = digits (n / 10) ++ [UInt8.ofNat (48 + n % 10)] := by
  split
  · rename_i h
    rw [digits, if_pos (by omega), Nat.mod_eq_of_lt (by omega)]
  · rename_i h
    rw [digits, if_neg (by omega)]
theorem digNat (n : Nat) : (UInt8.ofNat (48 + n % 10)).toNat = 48 + n % 10 := by
  simp [UInt8.toNat_ofNat]; omega
theorem digits_20 (n : Nat) (h : n < 18446744073709551616) : (digits n).length ≤ 20 := digits_len n 20 (by omega) (Nat.lt_of_lt_of_le h (by decide))

set_option maxRecDepth 100000 in
theorem slice_arr (q B : Nat) (hq : q < 20) (w : World) : (Instr.sliceAt 114 (.pointer (some ⟨B, 0, none⟩)) (some (.int .i64 q)) none none).run Try.prog w = .ok (.slice (some ⟨B, q, none⟩) (20 - q) (20 - q)) w := by
  have hl : Try.prog.arrayLen 114 = 20 := by kernel_rfl
  rw [run_sliceAt_array_l (P := Try.prog) w 114 ⟨B, 0, none⟩ Try.underlying114 .i64 q (by omega) (by rw [hl]; omega), hl]
  have hsz : (sizeOf (Try.prog.elem 114)).run Try.prog w = .ok 1 w := by kernel_rfl
  rw [hsz]
  simp only [Result.andThen, slicedAt, Int.toNat_natCast]
  rw [if_neg (by omega)]
  simp [Addr.add_lit]
/-- the array's tail holds the digits so far -/
def putRel (n0 : Nat) (B : Nat) (w : World) (n a : Value) (wr : World) : Prop :=
  ∃ (m p : Nat) (T : List UInt8) (C : Array Value) (e : TypeId), n = .int .u64 m ∧ a = .int .i64 (p : Int) ∧ p + T.length = 20 ∧ m ≤ n0 ∧ digits n0 = digits m ++ T ∧ Below B w wr ∧ B < wr.heap.size ∧
    wr.heap[B]? = some (.cells C e (0, 0)) ∧ C.size = 20 ∧ C.toList.drop p = byteVals T ∧ (0 < T.length → 0 < m)

set_option maxRecDepth 100000 in
set_option maxHeartbeats 1600000 in
theorem put_any (l : List UInt8) (n : Nat) (hl : l.length ≤ 1073741824) (hn : n < 18446744073709551616) (w : World) (ao : Option Addr) (cap : Nat) (g : Option Nat) (ho : Own w ao cap g 5 1 l.length (byteVals l)) :
    Calls Try.prog 58 #[.slice ao l.length cap, .int .u64 n] w fun e w' => ∃ ao' cap' g', e = .returned (.slice ao' (l.length + (digits n).length) cap') ∧
      Own w' ao' cap' g' 5 1 (l.length + (digits n).length) (byteVals (l ++ digits n)) ∧ (∀ k, g' = some k → g = some k ∨ w.heap.size ≤ k) ∧ Only (fun k => g = some k) w w' := by
  have hE := bytesElem
  have h20 := digits_20 n hn
  have Ho := Lib.hid ho
  clear ho
  go_enter Try.func58, Try.ntmps58
  go_wp2_with fail
  go_loopw [1, 6] (fun m a wr => putRel n w.heap.size w m a wr) (fun m _ _ => (intOf m).toNat)
  case atStart => exact ⟨n, 20, [], _, _, rfl, rfl, rfl, Nat.le_refl _, by simp, ext_alloc _ _, by simp, heap_alloc_new w _, rfl, rfl, fun h => absurd h (by simp)⟩
  case round =>
    obtain ⟨m, p, T, C, e, rfl, rfl, hp, hm, hd, hB, hBs, hh, hCs, hCd, hTm⟩ := hrel
    have hlenD : (digits n).length = (digits m).length + T.length := by rw [hd, List.length_append]
    have hdm := List.length_pos_iff.2 (digits_ne m)
    obtain ⟨q, rfl⟩ : ∃ q, p = q + 1 := ⟨p - 1, by omega⟩
    have hq20 : q < 20 := by omega
    have hqi : (0 : Int) ≤ (q : Int) ∧ (q : Int) < 20 := by omega
    have hcell : wr.cell? ⟨w.heap.size, q, none⟩ = some (C[q]'(by omega)) := by
      rw [cell_of_row wr _ q C e (0, 0) hh, Array.getElem?_eq_getElem (by omega)]
    have hfz : wr.frozen? ⟨w.heap.size, q, none⟩ = false := by simp [World.frozen?, hh]
    have hh2 : ∀ v, (wr.setCell ⟨w.heap.size, q, none⟩ v).heap[w.heap.size]? = some (.cells (C.setIfInBounds q v) e (0, 0)) := fun v => heap_setCells_in w.heap.size e (0, 0) [v] q wr C hh
    have hB2 : ∀ v, Below w.heap.size w (wr.setCell ⟨w.heap.size, q, none⟩ v) := fun v => hB.setCell (by simp) v
    have hstep := digits_step m
    have hmul := digNat m
    have hdrop : ((C.setIfInBounds q (.int .u8 (48 + (m : Int) % 10))).toList.drop q) = byteVals (UInt8.ofNat (48 + m % 10) :: T) := by
      have h1 : q < (C.setIfInBounds q (.int .u8 (48 + (m : Int) % 10))).toList.length := by simp; omega
      rw [List.drop_eq_getElem_cons h1]
      simp only [byteVals, List.map_cons]
      congr 1
      · simp; omega
      · rw [Array.toList_setIfInBounds, List.drop_set_of_lt (by omega)]
        exact hCd
    have hsz : ∀ v, (wr.setCell ⟨w.heap.size, q, none⟩ v).heap.size = wr.heap.size := fun v => by simp
    generalize hc : UInt8.ofNat (48 + m % 10) = c at *
    have HB := Lib.hid hB2
    have Hh := Lib.hid hh2
    have Hd := Lib.hid hd
    have Hdrop := Lib.hid hdrop
    have Hsz := Lib.hid hsz
    clear hB hB2 hh2 hd hdrop hCd hh hc hdm hsz hlenD
    rw [show ((q + 1 : Nat) : Int) = (q : Int) + 1 from rfl]
    by_cases h0 : m / 10 = 0
    · have hz : ((m : Int) / 10 == 0) = true := by simp; omega
      rw [if_pos h0] at hstep
      have hdd : digits n = c :: T := by rw [Hd.out, hstep]; rfl
      have hsl := slice_arr q w.heap.size hq20
      have hlen : 20 - q = (c :: T).length := by simp; omega
      have hh3 := Hh.out (.int .u8 (48 + (m : Int) % 10))
      have ho2 : Own (wr.setCell ⟨w.heap.size, q, none⟩ (.int .u8 (48 + (m : Int) % 10))) ao cap g 5 1 l.length (byteVals l) := Ho.out.ext (HB.out _)
      have hsrc : Src Try.prog 1 25 (.slice (some ⟨w.heap.size, q, none⟩) (20 - q) (20 - q)) (20 - q) (byteVals (c :: T)) (wr.setCell ⟨w.heap.size, q, none⟩ (.int .u8 (48 + (m : Int) % 10))) := by
        refine Src.ofSlice _ Try.underlying25 ⟨w.heap.size, q, none⟩ (20 - q) (20 - q) _ (by rw [hlen]; simp [byteVals]) (fun j u hu => ?_) (fun u hu => ?_)
        · rw [Addr.add_lit, cell_of_row _ _ _ _ e (0, 0) hh3]
          rw [← Hdrop.out, List.getElem?_drop] at hu
          rw [← Array.getElem?_toList]; exact hu
        · simp only [byteVals, List.mem_map] at hu
          obtain ⟨x, _, rfl⟩ := hu
          rfl
      have Hdd := Lib.hid hdd
      have Hlen := Lib.hid hlen
      clear hdd hstep hlen hh3
      go_wp2_with (at_builtin; refine wpList_app rfl (.tmp 19) (.tmp 21) 25 25 rfl hE ho2 rfl rfl hsrc (by simp [maxLen]; omega) (by omega) ?_; intro ao' cap' g' w1 ho' hg' hon)
      go_ret
      rw [Hdd.out, ← Hlen.out]
      refine ⟨ao', cap', g', rfl, by simpa [byteVals] using ho', fun k hk => ?_, ?_⟩
      · rcases hg' with rfl | rfl
        · exact .inl hk
        · cases hk; have := HB.out (.int .u8 0); right; have := this.size; simp at this ⊢; omega
      · exact (Only.of_below (fp := fun k => g = some k) (HB.out _)).trans hon (fun i _ h => h)
    · have hz : ((m : Int) / 10 == 0) = false := by simp; omega
      rw [if_neg h0] at hstep
      have Hst := Lib.hid hstep
      clear hstep
      go_wp2_with fail
      go_roundw
      case rel =>
        refine ⟨m / 10, q, c :: T, _, e, by simp, rfl, by simp; omega, by omega, by rw [Hd.out, Hst.out]; simp, HB.out _, by rw [Hsz.out]; exact hBs, Hh.out _, by simp; omega, Hdrop.out, fun _ => by omega⟩
      case measure => simp [intOf]; omega

theorem bs_append (a b : List UInt8) : bs a ++ bs b = bs (a ++ b) := by
  have h : (bs a ++ bs b).data = (bs (a ++ b)).data := by rw [ByteArray.data_append]; simp [bs]
  cases h2 : bs a ++ bs b with
  | mk d => rw [h2] at h; simp only [bs] at h ⊢; rw [h]
theorem str_add (a b : List UInt8) (h : a.length + b.length ≤ 9223372036854775807) (w : World) : (Op.stringOp .add (bs a) (bs b)).run Try.prog w = .ok (.string (bs (a ++ b))) w := by
  rw [run_string_add_sum w (bs a) (bs b) (by rw [bs_size, bs_size]; exact h), bs_append]

set_option maxRecDepth 100000 in
set_option maxHeartbeats 1600000 in
theorem rput_any : ∀ (n : Nat), n < 18446744073709551616 → ∀ (w : World),
    Calls Try.prog 57 #[.int .u64 n] w fun e w' => e = .returned (.string (bs (digits n))) ∧ Below w.heap.size w w' := by
  intro n
  induction n using Nat.strongRecOn with
  | _ n ih =>
    intro hn w
    have hstep := digits_step n
    have hmul := digNat n
    by_cases h : n < 10
    · have hd : decide ((n : Int) < 10) = true := by simp; omega
      rw [if_pos (by omega)] at hstep
      have hm : (n : Int) % 256 = n := by omega
      have hcv := run_string_of (P := Try.prog) (src := 25) (dst := 9) (w := w.alloc (.cells #[.int .u8 (48 + (n : Int))] 5)) Try.underlying25 Try.underlying5 Try.underlying9 (ao := some ⟨w.heap.size, 0, none⟩) (cap := 1) (W := digits n)
        (.inr ⟨w.heap.size, 0, rfl, fun j u hu => by
          rw [hstep] at hu
          have hj : j = 0 := by have := (List.getElem?_eq_some_iff.1 hu).1; simpa [byteVals] using this
          subst hj
          simp only [byteVals, List.map_cons, List.map_nil, List.getElem?_cons_zero, Option.some.injEq, hmul] at hu
          rw [← hu, Nat.zero_add, World.cell?_alloc_new]
          simp; omega⟩)
      have hl1 : (digits n).length = 1 := by rw [hstep]; rfl
      rw [hl1] at hcv
      clear hstep hmul
      go_enter Try.func57, Try.ntmps57
      go_wp2_with fail
      go_ret
      exact ⟨rfl, ext_alloc _ _⟩
    · have hd : decide ((n : Int) < 10) = false := by simp; omega
      have h1 := ih (n / 10) (by omega) (by omega)
      have h2 := ih (n % 10) (by omega) (by omega)
      rw [if_neg (by omega)] at hstep
      have hl1 := digits_20 (n / 10) (by omega)
      have hl2 := digits_20 (n % 10) (by omega)
      have hdm : digits (n % 10) = [UInt8.ofNat (48 + n % 10)] := by rw [digits, if_pos (by omega)]
      rw [← hdm] at hstep
      have hadd := str_add (digits (n / 10)) (digits (n % 10)) (by omega)
      rw [← hstep] at hadd
      simp only [Int.natCast_ediv, Int.natCast_emod] at h1 h2
      generalize digits n = d0 at *
      generalize digits (n / 10) = d1 at *
      generalize digits (n % 10) = d2 at *
      clear hstep hmul ih hdm
      go_enter Try.func57, Try.ntmps57
      go_wp2_with (first
        | (go_at_call 57; refine (h1 _).mono ?_; rintro e w1 ⟨rfl, hB1⟩; clear h1)
        | (go_at_call 57; refine (h2 _).mono ?_; rintro e w2 ⟨rfl, hB2⟩; clear h2))
      go_ret
      exact ⟨rfl, hB1.trans (hB2.mono hB1.size)⟩
end Go.Proofs.Ytafbjkbdfdeacaa
