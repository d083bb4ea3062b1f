/- The reference's Put, Many of walkers. -/
import Derived.Test.YtiojilibkdbpdaaWkPut
namespace Go.Proofs.Ytiojilibkdbpdaa
set_option linter.unusedSimpArgs false
set_option linter.unusedVariables false
set_option maxRecDepth 100000
open Go.RowKit

theorem Own.new1 (w : World) (e : TypeId) (cs : List Value) (n : Nat) (hn : n = cs.length) (hm : n ≤ maxLen) : Own (w.alloc (.cells cs.toArray e)) (some ⟨w.heap.size, 0, none⟩) n (some w.heap.size) e 1 n cs :=
  ⟨by omega, .inr ⟨w.heap.size, cs.toArray, rfl, rfl, heap_alloc_new _ _, Nat.le_refl _, hm, by simp [hn], by rw [hn]; simp⟩⟩
set_option maxHeartbeats 1600000 in
theorem rfour_any (n : Nat) (hn : n < 4294967296) (w : World) : Calls Try.prog 61 #[.int .u32 (n : Nat)] w (RetOwn 5 1 4 (byteVals (leb n 4)) w) := by
  have hv : byteVals (leb n 4) = [.int .u8 ((n : Int) % 256), .int .u8 ((n : Int) / 256 % 256), .int .u8 ((n : Int) / 65536 % 256), .int .u8 ((n : Int) / 16777216)] := by
    have h := le4_eq n
    unfold le4 at h
    rw [h]
    simp only [byteVals, List.map_cons, List.map_nil, UInt8.toNat_ofNat']
    have h0 : ((n % 2 ^ 8 : Nat) : Int) = (n : Int) % 256 := by omega
    have h1 : ((n / 256 % 2 ^ 8 : Nat) : Int) = (n : Int) / 256 % 256 := by omega
    have h2 : ((n / 65536 % 2 ^ 8 : Nat) : Int) = (n : Int) / 65536 % 256 := by omega
    have h3 : ((n / 16777216 % 2 ^ 8 : Nat) : Int) = (n : Int) / 16777216 := by omega
    rw [h0, h1, h2, h3]
  have Hv := Lib.hid hv
  have hn' : (n : Int) < 4294967296 := by omega
  clear hv hn
  go_enter Try.func61, Try.ntmps61
  go_wp2_with fail
  go_ret
  rw [Hv.out]
  exact ⟨_, _, _, rfl, Own.new1 w 5 _ 4 rfl (by decide), fun k h => by cases h; exact Nat.le_refl _, ext_alloc _ _⟩
def rput1 (w : World) (x : WkD) (v i : Value) (wr : World) : Prop := ∃ k : Nat, k ≤ 7 ∧ i = .int .i64 (k : Nat) ∧ putI w none (((nums x).take k).flatMap le4) v wr
theorem wkCs_at (x : WkD) (k : Nat) (hk : k < 7) : (wkCs x)[k]? = some (.int .u32 (((nums x)[k]! : Nat))) := by
  have h : k = 0 ∨ k = 1 ∨ k = 2 ∨ k = 3 ∨ k = 4 ∨ k = 5 ∨ k = 6 := by omega
  rcases h with rfl | rfl | rfl | rfl | rfl | rfl | rfl <;> rfl
theorem putI.ret {w w' : World} {B : List UInt8} {v : Value} (h : putI w none B v w') : RetOwn 5 1 B.length (byteVals B) w (.returned v) w' := by
  obtain ⟨ao, cap, g, rfl, h2, h3, h4⟩ := h
  exact ⟨ao, cap, g, rfl, h2, fun k hk => by rcases h3 k hk with h | h; cases h; exact h, h4.below (Nat.le_refl _) (fun k _ h => by cases h)⟩
set_option maxRecDepth 100000 in
set_option maxHeartbeats 1600000 in
theorem rputw_any (x : WkD) (hx : WkOk x) (w : World) :
    Calls Try.prog 38 #[.agg #[.int .u32 (x.id : Nat), .int .u32 (x.step : Nat), .int .u32 (x.at_ : Nat), .int .u32 (x.prev : Nat), .int .u32 (x.next : Nat), .int .u32 (x.try_ : Nat), .int .u32 (x.state : Nat)]] w (RetOwn 5 1 28 (byteVals (wkB x)) w) := by
  have hE := u8Elem
  have Hx := Lib.hid hx
  clear hx
  go_enter Try.func38, Try.ntmps38
  go_upto_region 2 with fail
  obtain ⟨W1, hW1⟩ : ∃ W1, (w.alloc (.cells #[.int .u32 (x.id : Nat), .int .u32 (x.step : Nat), .int .u32 (x.at_ : Nat), .int .u32 (x.prev : Nat), .int .u32 (x.next : Nat), .int .u32 (x.try_ : Nat), .int .u32 (x.state : Nat)] 31)).alloc (.cells #[.int .u32 (x.id : Nat), .int .u32 (x.step : Nat), .int .u32 (x.at_ : Nat), .int .u32 (x.prev : Nat), .int .u32 (x.next : Nat), .int .u32 (x.try_ : Nat), .int .u32 (x.state : Nat)] 23) = W1 := ⟨_, rfl⟩
  rw [hW1]
  have hz1 : w.heap.size + 1 < W1.heap.size := by rw [← hW1]; simp
  have HB1 := Lib.hid (show Below w.heap.size w W1 by rw [← hW1]; exact (ext_alloc _ _).alloc (by simp) _)
  have Hh := Lib.hid (show W1.heap[w.heap.size + 1]? = some (.cells (wkCs x) 23 (0, 0)) by rw [← hW1]; exact heap_alloc2_new _ _ _)
  clear hW1
  go_wp2_with fail
  go_loopw [4, 24] (fun v i wr => rput1 W1 x v i wr) (fun _ i _ => 7 - (intOf i).toNat)
  case atStart => exact ⟨0, by omega, rfl, some ⟨W1.heap.size, 0, none⟩, 0, some W1.heap.size, by simp, by simpa [byteVals] using Own.emptyAt W1 5 1 W1.heap.size rfl, fun k h => by cases h; exact .inr (Nat.le_refl _), Only.of_below (ext_alloc _ _)⟩
  case round =>
    obtain ⟨k, hk, rfl, hP⟩ := hrel
    have HP := Lib.hid hP
    obtain ⟨ao1, ca1, g1, rfl, hO, hG, hN⟩ := hP
    have HO := Lib.hid hO
    have HG := Lib.hid hG
    have HN := Lib.hid hN
    rename World => wo
    have hc := fun o => HN.out.cell (b := w.heap.size + 1) (by omega) (fun h => by cases h) o
    clear hO hG hN
    by_cases hlt : k < 7
    · have hir : (k : Int) < 7 := by omega
      have c0 := (hc k).trans ((cell_of_row W1 _ k _ _ (0, 0) Hh.out).trans (wkCs_at x k hlt))
      have HF := Lib.hid (fun W => rfour_any _ (nums_lt Hx.out k hlt) W)
      have Hfl := Lib.hid (nums_flat x k hlt)
      have hQl : (((nums x).take k).flatMap le4).length ≤ 5000 := by rw [flat4, List.length_take]; omega
      have hll := leb_len ((nums x)[k]!) 4
      generalize (nums x)[k]! = n at *
      have Hll := Lib.hid hll
      clear hc hll
      generalize ((nums x).take k).flatMap le4 = Q at *
      go_wp2_with (first
        | (go_at_call 61; refine (HF.out _).mono ?_; rintro e w2 ⟨ao2, ca2, g2, rfl, hO2, hG2, hB2⟩; have HO2 := Lib.hid hO2; have HB2 := Lib.hid hB2; clear hO2 hG2 hB2)
        | (at_builtin; refine wpList_app rfl (.tmp 27) (.tmp 32) 39 39 rfl hE (HO.out.ext HB2.out) rfl rfl (HO2.out.rd.src Try.underlying39 _ (byteVals_one _)) (by simp [maxLen]; omega) (by omega) ?_; intro ao5 cap5 g5 w5 ho5 hg5 hon5; have Ho5 := Lib.hid ho5; have Hg5 := Lib.hid hg5; have Hon5 := Lib.hid hon5; clear ho5 hg5 hon5))
      go_roundw
      case rel => exact ⟨k + 1, by omega, by go_num, putI.app (B := Q) HG.out HN.out HB2.out Ho5.out Hg5.out Hon5.out Hfl.out (by rw [Hfl.out, List.length_append, Hll.out])⟩
      case measure => simp [intOf]; omega
    · obtain rfl : k = 7 := by omega
      clear hc
      have HR := Lib.hid (show putI w none (wkB x) _ wo from ⟨ao1, ca1, g1, rfl, HO.out, fun k h => by rcases HG.out k h with h | h; cases h; right; omega, (Only.of_below HB1.out).trans HN.out (fun _ _ h => h)⟩)
      rw [show (((nums x).take 7).flatMap le4) = wkB x from rfl, wkB_len]
      go_wp2_with fail
      go_ret
      have h := HR.out.ret
      rw [wkB_len] at h
      exact h
def rmany1 (w : World) (l : List WkD) (v i : Value) (wr : World) : Prop := ∃ k : Nat, k ≤ l.length ∧ i = .int .i64 (k : Nat) ∧ putI w none (manyB (l.take k)) v wr
set_option maxRecDepth 100000 in
set_option maxHeartbeats 1600000 in
theorem rmany_any (l : List WkD) (hl : l.length ≤ 1000) (bo : Option Addr) (cb : Nat) (fp : Nat → Prop) (w : World) (hrd : RdS Rep.wk fp w bo l) :
    Calls Try.prog 21 #[.slice bo l.length cb] w (RetOwn 5 1 (manyB l).length (byteVals (manyB l)) w) := by
  have hE := u8Elem
  have Hrd := Lib.hid hrd
  clear hrd
  go_enter Try.func21, Try.ntmps21
  go_wp2_with fail
  go_loopw [3, 8] (fun v i wr => rmany1 w l v i wr) (fun _ i _ => l.length - (intOf i).toNat)
  case atStart => exact ⟨0, by omega, rfl, some ⟨w.heap.size, 0, none⟩, 0, some w.heap.size, by simp [manyB], by simpa [byteVals, manyB] using Own.emptyAt w 5 1 w.heap.size rfl, fun k h => by cases h; exact .inr (Nat.le_refl _), Only.of_below (ext_alloc _ _)⟩
  case round =>
    obtain ⟨k, hk, rfl, hP⟩ := hrel
    have HP := Lib.hid hP
    obtain ⟨ao1, ca1, g1, rfl, hO, hG, hN⟩ := hP
    have HO := Lib.hid hO
    have HG := Lib.hid hG
    have HN := Lib.hid hN
    rename World => wo
    clear hO hG hN
    by_cases hlt : k < l.length
    · obtain ⟨b, off, rfl, hf, hb, hok, c0, c1, c2, c3, c4, c5, c6⟩ := Hrd.out.wk k hlt
      have hk0 := fun o => HN.out.cell hb (fun h => by cases h) o
      have c0 := (hk0 _).trans c0
      have c1 := (hk0 _).trans c1
      have c2 := (hk0 _).trans c2
      have c3 := (hk0 _).trans c3
      have c4 := (hk0 _).trans c4
      have c5 := (hk0 _).trans c5
      have c6 := (hk0 _).trans c6
      have hir : (k : Int) < (l.length : Int) := by omega
      have Htk := Lib.hid (manyB_take l k hlt)
      have hQl : (manyB (l.take k)).length ≤ 30000 := by rw [manyB_len, List.length_take]; omega
      generalize l[k] = x at *
      have HF := Lib.hid (fun W => rputw_any x hok W)
      have Hll := Lib.hid (wkB_len x)
      clear hk0 hf hok
      generalize manyB (l.take k) = Q at *
      go_wp2_with (first
        | (go_at_call 38; refine (HF.out _).mono ?_; rintro e w2 ⟨ao2, ca2, g2, rfl, hO2, hG2, hB2⟩; have HO2 := Lib.hid hO2; have HB2 := Lib.hid hB2; clear hO2 hG2 hB2)
        | (at_builtin; refine wpList_app rfl (.tmp 11) (.tmp 16) 39 39 rfl hE (HO.out.ext HB2.out) rfl rfl (HO2.out.rd.src Try.underlying39 _ (byteVals_one _)) (by simp [maxLen]; omega) (by omega) ?_; intro ao5 cap5 g5 w5 ho5 hg5 hon5; have Ho5 := Lib.hid ho5; have Hg5 := Lib.hid hg5; have Hon5 := Lib.hid hon5; clear ho5 hg5 hon5))
      go_roundw
      case rel => exact ⟨k + 1, by omega, by go_num, putI.app (B := Q) HG.out HN.out HB2.out Ho5.out Hg5.out Hon5.out Htk.out (by rw [Htk.out, List.length_append, Hll.out])⟩
      case measure => simp [intOf]; omega
    · obtain rfl : k = l.length := by omega
      rw [List.take_length] at HP ⊢
      go_wp2_with fail
      go_ret
      exact HP.out.ret
end Go.Proofs.Ytiojilibkdbpdaa
