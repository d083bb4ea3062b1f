/- merge.Key, merge.Of; the reference's Below. -/
import Derived.Test.YtafbjkbdfdeacaaRefOf
import Derived.Test.YtafbjkbdfdeacaaEdgePrintW
import Derived.Test.YtafbjkbdfdeacaaCorpPiece
import Derived.Laws.MakeOwn
namespace Go.Proofs.Ytafbjkbdfdeacaa
set_option linter.unusedSimpArgs false
set_option linter.unusedVariables false
open Go.RowKit

theorem app_blocks {w W W' : World} {g g' : Option Nat} (hg : ∀ k, g = some k → w.heap.size ≤ k) (hB : Below w.heap.size w W) (hg' : g' = g ∨ g' = some W.heap.size) (hon : Only (fun k => g = some k) W W') : (∀ k, g' = some k → w.heap.size ≤ k) ∧ Below w.heap.size w W' := by
  refine ⟨fun k h => ?_, hB.trans (hon.below hB.size (fun k hk e => by have := hg k e; omega))⟩
  rcases hg' with rfl | rfl
  · exact hg k h
  · cases h; exact hB.size

def keyP (x : EdgeD) : Nat → List UInt8
  | 0 => []
  | 1 => be4 x.1
  | 2 => be4 x.1 ++ be4 x.2.1
  | _ => key3 x.1 x.2.1 x.2.2
theorem keyP_step (x : EdgeD) (k : Nat) (h : k < 3) : keyP x (k + 1) = keyP x k ++ be4 (numE x k) := by
  match k, h with
  | 0, _ => simp [keyP, numE]
  | 1, _ => simp [keyP, numE]
  | 2, _ => simp [keyP, numE, key3]
theorem keyP_len (x : EdgeD) (k : Nat) : (keyP x k).length ≤ 12 := by
  match k with
  | 0 => simp [keyP]
  | 1 => simp [keyP, be4]
  | 2 => simp [keyP, be4]
  | _ + 3 => simp [keyP, key3, be4]
theorem be4_step (v j : Nat) (h : j < 4) : ∃ u : UInt8, (be4 v).take (j + 1) = (be4 v).take j ++ [u] ∧ u.toNat = v / 256 ^ (3 - j) % 256 := by
  match j, h with
  | 0, _ => exact ⟨UInt8.ofNat (v / 16777216), rfl, by simp [u8n]⟩
  | 1, _ => exact ⟨UInt8.ofNat (v / 65536), rfl, by simp [u8n]⟩
  | 2, _ => exact ⟨UInt8.ofNat (v / 256), rfl, by simp [u8n]⟩
  | 3, _ => exact ⟨UInt8.ofNat v, rfl, by simp [u8n]⟩

set_option maxRecDepth 100000 in
set_option maxHeartbeats 3200000 in
theorem mkey_any (a b c : Nat) (ha : a < 4294967296) (hb : b < 4294967296) (hc : c < 4294967296) (w : World) :
    Calls Try.prog 15 #[.agg #[.int .u32 a, .int .u32 b, .int .u32 c]] w (RetOwn 5 1 12 (byteVals (key3 a b c)) w) := by
  have hE := bytesElem
  have hmk : ∀ u : World, (Instr.makeSlice 25 (.int .i64 0) (.int .i64 12)).run Try.prog u = .ok (.slice (some ⟨u.heap.size, 0, none⟩) 0 12) (u.alloc (.cells #[.int .u8 0, .int .u8 0, .int .u8 0, .int .u8 0, .int .u8 0, .int .u8 0, .int .u8 0, .int .u8 0, .int .u8 0, .int .u8 0, .int .u8 0, .int .u8 0] 5)) := fun u => by kernel_rfl
  have hidx : ∀ j : Nat, j < 3 → ∀ u : World, (Instr.index 79 (.agg #[.int .u32 (a : Nat), .int .u32 (b : Nat), .int .u32 (c : Nat)]) (.int .i64 (j : Nat))).run Try.prog u = .ok (.int .u32 (numE (a, b, c) j : Nat)) u := fun j hj => by
    match j, hj with
    | 0, _ => exact fun u => by kernel_rfl
    | 1, _ => exact fun u => by kernel_rfl
    | 2, _ => exact fun u => by kernel_rfl
  have hnum : ∀ j, numE (a, b, c) j < 4294967296 := fun j => by unfold numE; split <;> (try split) <;> assumption
  have Hidx := Lib.hid hidx
  have Hnum := Lib.hid hnum
  have Hst := Lib.hid (fun k h => keyP_step (a, b, c) k h)
  have Hkl := Lib.hid (fun k => keyP_len (a, b, c) k)
  clear hidx hnum
  go_enter Try.func15, Try.ntmps15
  go_wp2_with fail
  have ho0 : Own ((w.alloc (Obj.cells #[Value.int IntKind.u32 a, Value.int IntKind.u32 b, Value.int IntKind.u32 c] 24)).alloc (.cells #[.int .u8 0, .int .u8 0, .int .u8 0, .int .u8 0, .int .u8 0, .int .u8 0, .int .u8 0, .int .u8 0, .int .u8 0, .int .u8 0, .int .u8 0, .int .u8 0] 5)) (some ⟨w.heap.size + 1, 0, none⟩) 12 (some (w.heap.size + 1)) 5 1 0 [] :=
    ⟨rfl, .inr ⟨w.heap.size + 1, _, rfl, rfl, by simpa using heap_alloc_new (w.alloc (Obj.cells #[Value.int IntKind.u32 a, Value.int IntKind.u32 b, Value.int IntKind.u32 c] 24)) _, by omega, by simp [maxLen], rfl, rfl⟩⟩
  have hW : prE w (keyP (a, b, c) 0) (.slice (some ⟨w.heap.size + 1, 0, none⟩) 0 12) ((w.alloc (Obj.cells #[Value.int IntKind.u32 a, Value.int IntKind.u32 b, Value.int IntKind.u32 c] 24)).alloc (.cells #[.int .u8 0, .int .u8 0, .int .u8 0, .int .u8 0, .int .u8 0, .int .u8 0, .int .u8 0, .int .u8 0, .int .u8 0, .int .u8 0, .int .u8 0, .int .u8 0] 5)) :=
    ⟨_, 12, _, rfl, ho0, (fun k h => by cases h; omega), (ext_alloc w _).alloc (by simp) _⟩
  have HW := Lib.hid hW
  clear ho0 hmk hW
  go_loopw [3, 15] (fun o i wr => ∃ k : Nat, k ≤ 3 ∧ i = .int .i64 (k : Nat) ∧ prE w (keyP (a, b, c) k) o wr) (fun _ i _ => 3 - (intOf i).toNat)
  case atStart => exact ⟨0, by omega, rfl, HW.out⟩
  case round =>
    clear HW
    obtain ⟨k, hk, rfl, ao', cap', g, rfl, ho, hg, hB⟩ := hrel
    by_cases hlt : k < 3
    · have hidx := Hidx.out k hlt
      have hvb := Hnum.out k
      have hst := Hst.out k hlt
      have hkl := Hkl.out k
      have hir : (k : Int) < 3 := by omega
      generalize numE (a, b, c) k = v at hidx hvb hst
      generalize hPe : keyP (a, b, c) k = P at hst ho hkl ⊢
      have hW : prE w (P ++ (be4 v).take 0) (.slice ao' P.length cap') wr := ⟨ao', cap', g, by simp, by simpa using ho, hg, hB⟩
      have HW := Lib.hid hW
      have Hst1 := Lib.hid hst
      clear hW hst ho hg hB hPe
      go_wp2_with fail
      go_loopw [3, 18] (fun o i wr2 => ∃ j : Nat, j ≤ 4 ∧ i = .int .i64 (j : Nat) ∧ prE w (P ++ (be4 v).take j) o wr2) (fun _ i _ => 4 - (intOf i).toNat)
      case atStart => exact ⟨0, by omega, rfl, HW.out⟩
      case round =>
        clear HW
        obtain ⟨j, hj, rfl, ao3, cap3, g3, rfl, ho3, hg3, hB3⟩ := hrel
        have Ho3 := Lib.hid ho3
        have Hg3 := Lib.hid hg3
        have HB3 := Lib.hid hB3
        have hs := hB3.size
        clear ho3 hg3 hB3
        by_cases hjl : j < 4
        · have hir2 : (j : Int) < 4 := by omega
          obtain ⟨u, hu1, hu2⟩ := be4_step v j hjl
          obtain ⟨Q, hQ⟩ : ∃ Q, P ++ (be4 v).take j = Q := ⟨_, rfl⟩
          have hQl := congrArg List.length hQ
          simp only [List.length_append, List.length_take] at hQl
          have hQle : Q.length ≤ 100 := by have : (be4 v).length = 4 := rfl; omega
          have Ho4 := Ho3.out
          rw [hQ] at Ho4
          have HO4 := Lib.hid Ho4
          have hT : P ++ (be4 v).take (j + 1) = Q ++ [u] := by rw [hu1, ← hQ]; simp
          have HT := Lib.hid hT
          have Hu := Lib.hid hu2
          rw [hQ]
          clear hT hu1 hu2 hQ hQl Ho3 Ho4
          have hj4 : j = 0 ∨ j = 1 ∨ j = 2 ∨ j = 3 := by omega
          rcases hj4 with h | h | h | h
          · have hsub : (3 : Int) - (j : Int) = 3 := by omega
            have hpow : 256 ^ (3 - j) = 16777216 := by rw [h]
            have Hj := Lib.hid h
            have Hpow := Lib.hid hpow
            clear h hpow
            go_wp2_with (at_builtin; refine wpList_app rfl (.tmp 21) (.tmp 28) 25 25 rfl hE (HO4.out.alloc _) rfl rfl (srcOne Try.underlying25 _ _ _ _ rfl) (by simp [maxLen]; omega) (by omega) ?_; intro ao4 cap4 g4 W4 ho4 hg4 hon4; have Ho5 := Lib.hid ho4; have Hg4 := Lib.hid hg4; have Hon4 := Lib.hid hon4; clear ho4 hg4 hon4)
            have ho5 := Ho5.out
            have huv := Hu.out
            rw [Hpow.out] at huv
            obtain ⟨hG, hBB⟩ := app_blocks Hg3.out (HB3.out.alloc hs _) Hg4.out Hon4.out
            refine ⟨⟨j + 1, by omega, by go_num, ao4, cap4, g4, by rw [HT.out]; simp, ?_, hG, hBB⟩, by simp [intOf]; omega⟩
            rw [HT.out]
            have e : byteVals (Q ++ [u]) = byteVals Q ++ [.int .u8 (u.toNat : Nat)] := by simp [byteVals]
            rw [e, huv, List.length_append]
            have e3 : ((v / 16777216 % 256 : Nat) : Int) = (v : Int) / 16777216 := by omega
            rw [e3]
            exact ho5
          · have hsub : (3 : Int) - (j : Int) = 2 := by omega
            have hpow : 256 ^ (3 - j) = 65536 := by rw [h]
            have Hj := Lib.hid h
            have Hpow := Lib.hid hpow
            clear h hpow
            go_wp2_with (at_builtin; refine wpList_app rfl (.tmp 21) (.tmp 28) 25 25 rfl hE (HO4.out.alloc _) rfl rfl (srcOne Try.underlying25 _ _ _ _ rfl) (by simp [maxLen]; omega) (by omega) ?_; intro ao4 cap4 g4 W4 ho4 hg4 hon4; have Ho5 := Lib.hid ho4; have Hg4 := Lib.hid hg4; have Hon4 := Lib.hid hon4; clear ho4 hg4 hon4)
            have ho5 := Ho5.out
            have huv := Hu.out
            rw [Hpow.out] at huv
            obtain ⟨hG, hBB⟩ := app_blocks Hg3.out (HB3.out.alloc hs _) Hg4.out Hon4.out
            refine ⟨⟨j + 1, by omega, by go_num, ao4, cap4, g4, by rw [HT.out]; simp, ?_, hG, hBB⟩, by simp [intOf]; omega⟩
            rw [HT.out]
            have e : byteVals (Q ++ [u]) = byteVals Q ++ [.int .u8 (u.toNat : Nat)] := by simp [byteVals]
            rw [e, huv, List.length_append]
            have e3 : ((v / 65536 % 256 : Nat) : Int) = (v : Int) / 65536 % 256 := by omega
            rw [e3]
            exact ho5
          · have hsub : (3 : Int) - (j : Int) = 1 := by omega
            have hpow : 256 ^ (3 - j) = 256 := by rw [h]
            have Hj := Lib.hid h
            have Hpow := Lib.hid hpow
            clear h hpow
            go_wp2_with (at_builtin; refine wpList_app rfl (.tmp 21) (.tmp 28) 25 25 rfl hE (HO4.out.alloc _) rfl rfl (srcOne Try.underlying25 _ _ _ _ rfl) (by simp [maxLen]; omega) (by omega) ?_; intro ao4 cap4 g4 W4 ho4 hg4 hon4; have Ho5 := Lib.hid ho4; have Hg4 := Lib.hid hg4; have Hon4 := Lib.hid hon4; clear ho4 hg4 hon4)
            have ho5 := Ho5.out
            have huv := Hu.out
            rw [Hpow.out] at huv
            obtain ⟨hG, hBB⟩ := app_blocks Hg3.out (HB3.out.alloc hs _) Hg4.out Hon4.out
            refine ⟨⟨j + 1, by omega, by go_num, ao4, cap4, g4, by rw [HT.out]; simp, ?_, hG, hBB⟩, by simp [intOf]; omega⟩
            rw [HT.out]
            have e : byteVals (Q ++ [u]) = byteVals Q ++ [.int .u8 (u.toNat : Nat)] := by simp [byteVals]
            rw [e, huv, List.length_append]
            have e3 : ((v / 256 % 256 : Nat) : Int) = (v : Int) / 256 % 256 := by omega
            rw [e3]
            exact ho5
          · have hsub : (3 : Int) - (j : Int) = 0 := by omega
            have hpow : 256 ^ (3 - j) = 1 := by rw [h]
            have Hj := Lib.hid h
            have Hpow := Lib.hid hpow
            clear h hpow
            go_wp2_with (at_builtin; refine wpList_app rfl (.tmp 21) (.tmp 28) 25 25 rfl hE (HO4.out.alloc _) rfl rfl (srcOne Try.underlying25 _ _ _ _ rfl) (by simp [maxLen]; omega) (by omega) ?_; intro ao4 cap4 g4 W4 ho4 hg4 hon4; have Ho5 := Lib.hid ho4; have Hg4 := Lib.hid hg4; have Hon4 := Lib.hid hon4; clear ho4 hg4 hon4)
            have ho5 := Ho5.out
            have huv := Hu.out
            rw [Hpow.out] at huv
            obtain ⟨hG, hBB⟩ := app_blocks Hg3.out (HB3.out.alloc hs _) Hg4.out Hon4.out
            refine ⟨⟨j + 1, by omega, by go_num, ao4, cap4, g4, by rw [HT.out]; simp, ?_, hG, hBB⟩, by simp [intOf]; omega⟩
            rw [HT.out]
            have e : byteVals (Q ++ [u]) = byteVals Q ++ [.int .u8 (u.toNat : Nat)] := by simp [byteVals]
            rw [e, huv, List.length_append]
            have e3 : ((v / 1 % 256 : Nat) : Int) = (v : Int) % 256 := by omega
            rw [e3]
            exact ho5
        · obtain rfl : j = 4 := by omega
          have hT : P ++ (be4 v).take 4 = keyP (a, b, c) (k + 1) := by rw [Hst1.out]; rfl
          have HT := Lib.hid hT
          rw [hT] at Ho3 ⊢
          clear hT
          go_wp2_with fail
          exact ⟨⟨k + 1, by omega, by go_num, ao3, cap3, g3, rfl, Ho3.out, Hg3.out, HB3.out⟩, by simp [intOf]; omega⟩
    · obtain rfl : k = 3 := by omega
      go_wp2_with fail
      go_ret
      exact ⟨ao', cap', g, rfl, ho, hg, hB⟩

set_option maxRecDepth 100000 in
set_option maxHeartbeats 1600000 in
theorem mof_yes (l : List UInt8) (ao : Option Addr) (cap : Nat) (w : World) (h12 : l.length = 12) (hrd : Rd w ao l.length (byteVals l)) :
    Calls Try.prog 16 #[.slice ao l.length cap] w fun e w' => e = .returned (.tuple #[edgeV (keyOf l), .int .i64 0]) ∧ Below w.heap.size w w' := by
  obtain ⟨b, off, rfl, hb, hc⟩ := hrd.pos (by omega)
  obtain ⟨c0, c1, c2, c3, c4, c5, c6, c7, c8, c9, c10, c11, rfl⟩ := twelve l h12
  have h0 := hc 0 (by simp); have h1 := hc 1 (by simp); have h2 := hc 2 (by simp); have h3 := hc 3 (by simp)
  have h4 := hc 4 (by simp); have h5 := hc 5 (by simp); have h6 := hc 6 (by simp); have h7 := hc 7 (by simp)
  have h8 := hc 8 (by simp); have h9 := hc 9 (by simp); have h10 := hc 10 (by simp); have h11 := hc 11 (by simp)
  simp only [byteVals, List.map_cons, List.map_nil, List.getElem?_cons_zero, List.getElem?_cons_succ, Nat.add_zero] at h0 h1 h2 h3 h4 h5 h6 h7 h8 h9 h10 h11
  clear hc hrd h12
  have k0 := c0.toNat_lt; have k1 := c1.toNat_lt; have k2 := c2.toNat_lt; have k3 := c3.toNat_lt; have k4 := c4.toNat_lt; have k5 := c5.toNat_lt
  have k6 := c6.toNat_lt; have k7 := c7.toNat_lt; have k8 := c8.toNat_lt; have k9 := c9.toNat_lt; have k10 := c10.toNat_lt; have k11 := c11.toNat_lt
  simp only [keyOf, num4, List.take_succ_cons, List.take_zero, List.drop_succ_cons, List.drop_zero, List.foldl_cons, List.foldl_nil, Nat.zero_mul, Nat.zero_add]
  generalize c0.toNat = c0 at *
  generalize c1.toNat = c1 at *
  generalize c2.toNat = c2 at *
  generalize c3.toNat = c3 at *
  generalize c4.toNat = c4 at *
  generalize c5.toNat = c5 at *
  generalize c6.toNat = c6 at *
  generalize c7.toNat = c7 at *
  generalize c8.toNat = c8 at *
  generalize c9.toNat = c9 at *
  generalize c10.toNat = c10 at *
  generalize c11.toNat = c11 at *
  go_enter Try.func16, Try.ntmps16
  go_wp2
  refine wp_loop_rounds 13 ?_
  iterate 13
    rw [rounds_succ]
    go_wp2
  simp only [or_first c0 k0, or_first c4 k4, or_first c8 k8, or_next _ _ (show c0 < 16777216 by omega) k1, or_next _ _ (show c4 < 16777216 by omega) k5, or_next _ _ (show c8 < 16777216 by omega) k9,
    or_next _ _ (show c0 * 256 + c1 < 16777216 by omega) k2, or_next _ _ (show c4 * 256 + c5 < 16777216 by omega) k6, or_next _ _ (show c8 * 256 + c9 < 16777216 by omega) k10,
    or_next _ _ (show (c0 * 256 + c1) * 256 + c2 < 16777216 by omega) k3, or_next _ _ (show (c4 * 256 + c5) * 256 + c6 < 16777216 by omega) k7, or_next _ _ (show (c8 * 256 + c9) * 256 + c10 < 16777216 by omega) k11]
  refine bodyPost_ret (v := .tuple #[edgeV (((c0 * 256 + c1) * 256 + c2) * 256 + c3, ((c4 * 256 + c5) * 256 + c6) * 256 + c7, ((c8 * 256 + c9) * 256 + c10) * 256 + c11), .int .i64 0]) (by simp [results, Try.results16, go_sem, ↓IntWalk.iteOmega, edgeV]) rfl ⟨rfl, ?_⟩
  exact (ext_alloc w _).alloc (by simp) _

set_option maxRecDepth 100000 in
set_option maxHeartbeats 1600000 in
theorem mof_no (n cap : Nat) (ao : Option Addr) (w : World) (h12 : n ≠ 12) :
    Calls Try.prog 16 #[.slice ao n cap] w fun e w' => e = .returned (.tuple #[edgeV (0, 0, 0), .int .i64 3]) ∧ Below w.heap.size w w' := by
  have hd : ((n : Int) != 12) = true := by simp; omega
  go_enter Try.func16, Try.ntmps16
  go_wp2
  refine bodyPost_ret (v := .tuple #[edgeV (0, 0, 0), .int .i64 3]) (by simp [results, Try.results16, go_sem, ↓IntWalk.iteOmega, edgeV]) rfl ⟨rfl, ?_⟩
  exact ext_alloc w _

def belowE (x y : EdgeD) : Bool := if x.1 = y.1 then (if x.2.1 = y.2.1 then decide (x.2.2 < y.2.2) else decide (x.2.1 < y.2.1)) else decide (x.1 < y.1)
theorem belowE_key (x y : EdgeD) (hx : okE x) (hy : okE y) : belowE x y = true ↔ key3 x.1 x.2.1 x.2.2 < key3 y.1 y.2.1 y.2.2 := by
  rw [key3_lt _ _ _ _ _ _ hx.1 hx.2.1 hx.2.2 hy.1 hy.2.1 hy.2.2]
  unfold belowE
  split
  · split
    · rw [decide_eq_true_eq]; omega
    · rw [decide_eq_true_eq]; omega
  · rw [decide_eq_true_eq]; omega

set_option maxRecDepth 100000 in
set_option maxHeartbeats 1600000 in
theorem rbelow_any (x y : EdgeD) (w : World) : Calls Try.prog 19 #[edgeV x, edgeV y] w fun e w' => e = .returned (.bool (belowE x y)) ∧ Below w.heap.size w w' := by
  obtain ⟨x0, x1, x2⟩ := x
  obtain ⟨y0, y1, y2⟩ := y
  unfold edgeV belowE
  simp only
  have hB : Below w.heap.size w ((w.alloc (Obj.cells #[Value.int IntKind.u32 x0, Value.int IntKind.u32 x1, Value.int IntKind.u32 x2] 24)).alloc (Obj.cells #[Value.int IntKind.u32 y0, Value.int IntKind.u32 y1, Value.int IntKind.u32 y2] 24)) := (ext_alloc w _).alloc (by simp) _
  have c : ∀ a b : Nat, decide ((a : Int) < (b : Int)) = decide (a < b) := fun a b => by rw [decide_eq_decide]; omega
  by_cases h0 : x0 = y0
  · have d0 : ((x0 : Int) != (y0 : Int)) = false := by simp [h0]
    rw [if_pos h0]
    by_cases h1 : x1 = y1
    · have d1 : ((x1 : Int) != (y1 : Int)) = false := by simp [h1]
      rw [if_pos h1]
      have HC := Lib.hid (c x2 y2)
      clear c h0 h1
      go_enter Try.func19, Try.ntmps19
      go_wp2
      go_ret
      exact ⟨by first | rfl | (rw [← HC.out]), hB⟩
    · have d1 : ((x1 : Int) != (y1 : Int)) = true := by simp; omega
      rw [if_neg h1]
      have HC := Lib.hid (c x1 y1)
      clear c h0 h1
      go_enter Try.func19, Try.ntmps19
      go_wp2
      go_ret
      exact ⟨by first | rfl | (rw [← HC.out]), hB⟩
  · have d0 : ((x0 : Int) != (y0 : Int)) = true := by simp; omega
    rw [if_neg h0]
    have HC := Lib.hid (c x0 y0)
    clear c h0
    go_enter Try.func19, Try.ntmps19
    go_wp2
    go_ret
    exact ⟨by first | rfl | (rw [← HC.out]), hB⟩
end Go.Proofs.Ytafbjkbdfdeacaa
