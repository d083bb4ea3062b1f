/- walker.Put. -/
import Derived.Test.YtiojilibkdbpdaaWkBytes
import Derived.Test.YtiojilibkdbpdaaWkMay
namespace Go.Proofs.Ytiojilibkdbpdaa
set_option linter.unusedSimpArgs false
set_option linter.unusedVariables false
set_option maxRecDepth 100000
open Go.RowKit

theorem u8Elem : Elem Try.prog 39 5 1 1 (.int .u8 0) := Elem.mk' Try.underlying39 (by kernel_rfl) rfl (by decide)
def Rep.wk : Rep WkD where
  size := 7
  ok _ _ x cs := cs = (wkCs x).toList ∧ WkOk x
  len h := by rw [h.1]; rfl
  keep h _ _ := h
  mono h _ := h
theorem RdS.wk {fp : Nat → Prop} {w : World} {ao : Option Addr} {l : List WkD} (h : RdS Rep.wk fp w ao l) (k : Nat) (hk : k < l.length) :
    ∃ b off, ao = some ⟨b, off, none⟩ ∧ fp b ∧ b < w.heap.size ∧ WkOk l[k] ∧ w.cell? ⟨b, off + k * 7, none⟩ = some (.int .u32 (l[k].id : Nat)) ∧ w.cell? ⟨b, off + k * 7 + 1, none⟩ = some (.int .u32 (l[k].step : Nat)) ∧ w.cell? ⟨b, off + k * 7 + 2, none⟩ = some (.int .u32 (l[k].at_ : Nat)) ∧
      w.cell? ⟨b, off + k * 7 + 3, none⟩ = some (.int .u32 (l[k].prev : Nat)) ∧ w.cell? ⟨b, off + k * 7 + 4, none⟩ = some (.int .u32 (l[k].next : Nat)) ∧ w.cell? ⟨b, off + k * 7 + 5, none⟩ = some (.int .u32 (l[k].try_ : Nat)) ∧ w.cell? ⟨b, off + k * 7 + 6, none⟩ = some (.int .u32 (l[k].state : Nat)) := by
  obtain ⟨b, off, cs, rfl, hf, hb, ⟨rfl, h1⟩, hc⟩ := h.at k hk
  exact ⟨b, off, rfl, hf, hb, h1, hc 0 (by decide), hc 1 (by decide), hc 2 (by decide), hc 3 (by decide), hc 4 (by decide), hc 5 (by decide), hc 6 (by decide)⟩
theorem idx_nums (x : WkD) (k : Nat) (hk : k < 7) (W : World) : (Instr.index 69 (.agg (wkCs x)) (.int .i64 (k : Nat))).run Try.prog W = .ok (.int .u32 (((nums x)[k]! : Nat))) W := by
  have h : k = 0 ∨ k = 1 ∨ k = 2 ∨ k = 3 ∨ k = 4 ∨ k = 5 ∨ k = 6 := by omega
  rcases h with rfl | rfl | rfl | rfl | rfl | rfl | rfl <;> simp [Instr.index, run_underlying Try.underlying69, asIntOf, go_sem, wkCs, nums]
/-- bytes of the caller's own, in the block that was or a new one -/
def putI (w : World) (g0 : Option Nat) (B : List UInt8) (v : Value) (wr : World) : Prop :=
  ∃ ao cap g, v = .slice ao B.length cap ∧ Own wr ao cap g 5 1 B.length (byteVals B) ∧ (∀ k, g = some k → g0 = some k ∨ w.heap.size ≤ k) ∧ Only (fun k => g0 = some k) w wr
theorem putI.app {w wr w2 w3 : World} {g0 g g3 : Option Nat} {ao : Option Addr} {cap n : Nat} {B C D : List UInt8} (hg : ∀ k, g = some k → g0 = some k ∨ w.heap.size ≤ k) (ho : Only (fun k => g0 = some k) w wr) (hB : Below wr.heap.size wr w2)
    (hO : Own w3 ao cap g3 5 1 n (byteVals B ++ byteVals C)) (hg3 : g3 = g ∨ g3 = some w2.heap.size) (hon : Only (fun k => g = some k) w2 w3) (hD : D = B ++ C) (hn : n = D.length) : putI w g0 D (.slice ao n cap) w3 := by
  subst hD hn
  refine ⟨ao, cap, g3, rfl, by simpa [byteVals] using hO, fun k hk => ?_, (ho.trans (Only.of_below hB) (fun _ _ h => h)).trans hon (fun k hk h => ?_)⟩
  · rcases hg3 with rfl | rfl
    · exact hg k hk
    · cases hk; right; exact Nat.le_trans ho.size hB.size
  · rcases hg k h with h | h
    · exact h
    · omega
theorem putI.own {w wr : World} {g0 : Option Nat} {B : List UInt8} {v : Value} (h : putI w g0 B v wr) {w2 : World} (hB : Below wr.heap.size wr w2) : putI w g0 B v w2 := by
  obtain ⟨ao, cap, g, h1, h2, h3, h4⟩ := h
  exact ⟨ao, cap, g, h1, h2.ext hB, h3, h4.ext hB⟩
theorem byte_div (m : Nat) : (Value.int .u8 ((m : Int) % 256)) = .int .u8 ((UInt8.ofNat m).toNat : Nat) := by
  rw [UInt8.toNat_ofNat']; rfl
theorem nums_lt {x : WkD} (h : WkOk x) (m : Nat) (hm : m < 7) : (nums x)[m]! < 4294967296 := by
  have hk : m = 0 ∨ m = 1 ∨ m = 2 ∨ m = 3 ∨ m = 4 ∨ m = 5 ∨ m = 6 := by omega
  rcases hk with rfl | rfl | rfl | rfl | rfl | rfl | rfl
  · exact h.id
  · exact h.step
  · exact h.at_
  · exact h.prev
  · exact h.next
  · exact h.try_
  · exact h.state
theorem nums_flat (x : WkD) (m : Nat) (hm : m < 7) : ((nums x).take (m + 1)).flatMap le4 = ((nums x).take m).flatMap le4 ++ leb (nums x)[m]! 4 := by
  rw [numsB_take (nums x) m (by simpa [nums] using hm), getElem!_pos (nums x) m (by simpa [nums] using hm)]; rfl
def PutRet (w : World) (g0 : Option Nat) (B : List UInt8) (e : Ending) (w' : World) : Prop := ∃ v, e = .returned v ∧ putI w g0 B v w'
def put1 (w : World) (g0 : Option Nat) (B : List UInt8) (l : List WkD) (v i : Value) (wr : World) : Prop := ∃ k : Nat, k ≤ l.length ∧ i = .int .i64 (k : Nat) ∧ putI w g0 (B ++ manyB (l.take k)) v wr
def put2 (w : World) (g0 : Option Nat) (B : List UInt8) (x : WkD) (v i : Value) (wr : World) : Prop := ∃ k : Nat, k ≤ 7 ∧ i = .int .i64 (k : Nat) ∧ putI w g0 (B ++ ((nums x).take k).flatMap le4) v wr
def put3 (w : World) (g0 : Option Nat) (B : List UInt8) (n : Nat) (v y i : Value) (wr : World) : Prop := ∃ k : Nat, k ≤ 4 ∧ i = .int .i64 (k : Nat) ∧ y = .int .u32 ((n / 256 ^ k : Nat) : Nat) ∧ putI w g0 (B ++ leb n k) v wr

set_option maxRecDepth 100000 in
set_option maxHeartbeats 3200000 in
theorem wput_any (l : List WkD) (B : List UInt8) (hl : l.length ≤ 1000) (hB : B.length ≤ 1000) (ao bo : Option Addr) (ca cb : Nat) (g0 : Option Nat) (fp : Nat → Prop) (w : World) (ho : Own w ao ca g0 5 1 B.length (byteVals B)) (hrd : RdS Rep.wk fp w bo l) (hfp : ∀ b, fp b → b < w.heap.size → g0 ≠ some b) :
    Calls Try.prog 20 #[.slice ao B.length ca, .slice bo l.length cb] w (PutRet w g0 (B ++ manyB l)) := by
  have hE := u8Elem
  have HP := Lib.hid (show putI w g0 B (.slice ao B.length ca) w from ⟨ao, ca, g0, rfl, ho, fun k h => .inl h, Only.refl _ _⟩)
  have Hrd := Lib.hid hrd
  have Hfp := Lib.hid hfp
  clear ho hrd hfp
  go_enter Try.func20, Try.ntmps20
  go_wp2_with fail
  go_loopw [0, 11] (fun v i wr => put1 w g0 B l v i wr) (fun _ i _ => l.length - (intOf i).toNat)
  case atStart => exact ⟨0, by omega, rfl, by simpa [manyB] using HP.out⟩
  case round =>
    obtain ⟨k, hk, rfl, hP⟩ := hrel
    rename World => wo
    have HPo := Lib.hid hP
    obtain ⟨ao1, ca1, g1, rfl, _, _, hon⟩ := hP
    have Hon := Lib.hid hon
    clear hon
    by_cases hlt : k < l.length
    · obtain ⟨b, off, rfl, hf, hb, hok, c0, c1, c2, c3, c4, c5, c6⟩ := Hrd.out.wk k hlt
      have hk0 := fun o => Hon.out.cell hb (Hfp.out b hf hb) o
      have c0 := (hk0 _).trans c0
      have c1 := (hk0 _).trans c1
      have c2 := (hk0 _).trans c2
      have c3 := (hk0 _).trans c3
      have c4 := (hk0 _).trans c4
      have c5 := (hk0 _).trans c5
      have c6 := (hk0 _).trans c6
      have hir : (k : Int) < (l.length : Int) := by omega
      have htk := manyB_take l k hlt
      generalize l[k] = x at *
      have Htk := Lib.hid htk
      have Hok := Lib.hid hok
      have hPl : (B ++ manyB (l.take k)).length ≤ 40000 := by rw [List.length_append, manyB_len, List.length_take]; omega
      have hPl2 : (B ++ manyB (l.take (k + 1))).length ≤ 40000 := by rw [List.length_append, manyB_len, List.length_take]; omega
      rw [Htk.out, ← List.append_assoc] at hPl2
      have hgoal : ∀ v wr, putI w g0 ((B ++ manyB (l.take k)) ++ wkB x) v wr → putI w g0 (B ++ manyB (l.take (k + 1))) v wr := fun v wr h => by rw [Htk.out, ← List.append_assoc]; exact h
      have Hgoal := Lib.hid hgoal
      clear hk0 htk hok hf hgoal
      generalize B ++ manyB (l.take k) = P at *
      have HA := Lib.hid (fun W => (show Calls Try.prog 37 #[.agg #[.int .u32 (x.id : Nat), .int .u32 (x.step : Nat), .int .u32 (x.at_ : Nat), .int .u32 (x.prev : Nat), .int .u32 (x.next : Nat), .int .u32 (x.try_ : Nat), .int .u32 (x.state : Nat)]] W (RetB (.agg (wkCs x)) W) from apart_any x W))
      go_wp2_with (go_at_call 37; refine (HA.out _).mono ?_; rintro e w2 ⟨rfl, hB2⟩; have HB2 := Lib.hid hB2; clear hB2)
      clear c0 c1 c2 c3 c4 c5 c6
      go_loopw [0, 17] (fun v i wr => put2 w g0 P x v i wr) (fun _ i _ => 7 - (intOf i).toNat)
      case atStart => exact ⟨0, by omega, rfl, by simpa using HPo.out.own ((ext_alloc wo _).trans (HB2.out.mono (by simp)))⟩
      case round =>
        obtain ⟨m, hm, rfl, hP⟩ := hrel
        rename World => w3
        have HP3 := Lib.hid hP
        obtain ⟨ao3, ca3, g3, rfl, _⟩ := hP
        by_cases hm7 : m < 7
        · have hi := idx_nums x m hm7
          have hn := nums_lt Hok.out m hm7
          have Hfl := Lib.hid (nums_flat x m hm7)
          have hQl : (P ++ ((nums x).take m).flatMap le4).length ≤ 50000 := by
            rw [List.length_append, flat4, List.length_take]; omega
          generalize (nums x)[m]! = n at *
          have Hgoal2 := Lib.hid (show ∀ v wr, putI w g0 ((P ++ ((nums x).take m).flatMap le4) ++ leb n 4) v wr → putI w g0 (P ++ ((nums x).take (m + 1)).flatMap le4) v wr from fun v wr h => by rw [Hfl.out, ← List.append_assoc]; exact h)
          generalize P ++ ((nums x).take m).flatMap le4 = Q at *
          have hmi : (m : Int) < 7 := by omega
          go_wp2_with fail
          go_loopw [0, 8, 20] (fun v y i wr => put3 w g0 Q n v y i wr) (fun _ _ i _ => 4 - (intOf i).toNat)
          case atStart => exact ⟨0, by omega, rfl, by simp, by simpa [leb] using HP3.out⟩
          case round =>
            obtain ⟨i, hi4, rfl, rfl, ao4, ca4, g4, rfl, hO4, hG4, hN4⟩ := hrel
            have HO4 := Lib.hid hO4
            have HG4 := Lib.hid hG4
            have HN4 := Lib.hid hN4
            have hRl : (Q ++ leb n i).length ≤ 60000 := by rw [List.length_append, leb_len]; omega
            have hleb : Q ++ leb n (i + 1) = (Q ++ leb n i) ++ [UInt8.ofNat (n / 256 ^ i)] := by rw [leb, List.append_assoc]
            have hp1 : n / 256 ^ (i + 1) = n / 256 ^ i / 256 := by rw [Nat.pow_succ, Nat.div_div_eq_div_mul]
            have hm4 : n / 256 ^ i < 4294967296 := Nat.lt_of_le_of_lt (Nat.div_le_self _ _) hn
            have Hleb := Lib.hid hleb
            have Hp1 := Lib.hid hp1
            clear hO4 hG4 hN4 hleb hp1
            by_cases hlt4 : i < 4
            · have hli : (i : Int) < 4 := by omega
              generalize n / 256 ^ i = M at *
              generalize Q ++ leb n i = R at *
              have hM : (M : Int) < 4294967296 := by omega
              go_wp2_with (at_builtin; refine wpList_app rfl (.tmp 22) (.tmp 25) 39 39 rfl hE (HO4.out.alloc _) rfl rfl (srcOne Try.underlying39 _ _ _ _ rfl) (by simp [maxLen]; omega) (by omega) ?_; intro ao5 cap5 g5 w5 ho5 hg5 hon5; have Ho5 := Lib.hid ho5; have Hg5 := Lib.hid hg5; have Hon5 := Lib.hid hon5; clear ho5 hg5 hon5)
              go_roundw
              case rel =>
                have Hx := Ho5.out
                have Hd := byte_div M
                rw [Hd] at Hx
                exact ⟨i + 1, by omega, by go_num, by rw [Hp1.out]; simp, putI.app (B := R) (C := [UInt8.ofNat M]) HG4.out HN4.out (ext_alloc _ _) Hx Hg5.out Hon5.out Hleb.out (by rw [Hleb.out]; simp)⟩
              case measure => simp [intOf]; omega
            · obtain rfl : i = 4 := by omega
              have HF := Lib.hid (Hgoal2.out _ _ (show putI w g0 (Q ++ leb n 4) _ _ from ⟨ao4, ca4, g4, rfl, HO4.out, HG4.out, HN4.out⟩))
              go_wp2_with fail
              go_roundw
              case rel => exact ⟨m + 1, by omega, by go_num, HF.out⟩
              case measure => simp [intOf]; omega
        · obtain rfl : m = 7 := by omega
          have HF := Lib.hid (Hgoal.out _ _ HP3.out)
          go_wp2_with fail
          go_roundw
          case rel => exact ⟨k + 1, by omega, by go_num, HF.out⟩
          case measure => simp [intOf]; omega
    · obtain rfl : k = l.length := by omega
      rw [List.take_length] at HPo ⊢
      have HF := Lib.hid HPo.out
      go_wp2_with fail
      go_ret
      exact ⟨_, rfl, HF.out⟩
end Go.Proofs.Ytiojilibkdbpdaa
