/- The reference's All of walkers. -/
import Derived.Test.YtiojilibkdbpdaaWkSame
namespace Go.Proofs.Ytiojilibkdbpdaa
set_option linter.unusedSimpArgs false
set_option linter.unusedVariables false
set_option maxRecDepth 100000
open Go.RowKit

theorem wkElem : Elem Try.prog 40 31 7 28 (.agg #[.int .u32 0, .int .u32 0, .int .u32 0, .int .u32 0, .int .u32 0, .int .u32 0, .int .u32 0]) := Elem.mk' Try.underlying40 (by kernel_rfl) rfl (by decide)
theorem srcManyW {P : Program} {tx e' : TypeId} (hk : P.underlying tx = some (.slice e')) (w : World) (cs : List Value) (t : TypeId) (k size n : Nat) (hn : n = w.heap.size) (hs : cs.length = size) (h1 : ∀ u ∈ cs, u.oneCell' = true) :
    Src P size tx (.slice (some ⟨n, 0, none⟩) 1 k) 1 cs (w.alloc (.cells cs.toArray t)) := by
  subst hn
  exact Src.ofSlice (w.alloc (.cells cs.toArray t)) hk ⟨w.heap.size, 0, none⟩ 1 k cs (by omega) (fun j u hu => by
    rw [Addr.add_lit, Nat.zero_add, World.cell?_alloc_new]
    simpa using hu) h1
theorem byteVals_drop (l : List UInt8) (k : Nat) : byteVals (l.drop k) = (byteVals l).drop k := by simp [byteVals]
def slLen : Value → Nat
  | .slice _ n _ => n
  | _ => 0
/-- so many walkers are read -/
def allI (w : World) (bytes : List UInt8) (v0 v4 : Value) (wr : World) : Prop :=
  ∃ (j : Nat) (R : List UInt8) (ao' : Option Addr) (cap' : Nat) (ao2 : Option Addr) (cap2 : Nat) (g : Option Nat), R = bytes.drop (28 * j) ∧ 28 * j ≤ bytes.length ∧ v0 = .slice ao' R.length cap' ∧ R.length ≤ cap' ∧ Rd w ao' R.length (byteVals R) ∧ v4 = .slice ao2 j cap2 ∧
    OwnS Rep.wk (fun _ => False) wr ao2 cap2 g 31 (readMany j bytes) ∧ (∀ k, g = some k → w.heap.size ≤ k) ∧ Below w.heap.size w wr
theorem OwnS.emptyWk (w : World) : OwnS Rep.wk (fun _ => False) (w.alloc (.cells #[] 31)) (some ⟨w.heap.size, 0, none⟩) 0 (some w.heap.size) 31 [] := ⟨[], Own.emptyAt w 31 7 w.heap.size rfl, .nil⟩
/-- what a call that reads walkers leaves -/
def AllRet (l : List WkD) (v : Value) (w : World) (e : Ending) (w' : World) : Prop :=
  ∃ ao cap fp, e = .returned (.tuple #[.slice ao l.length cap, v]) ∧ RdS Rep.wk fp w' ao l ∧ (∀ b, fp b → w.heap.size ≤ b) ∧ Below w.heap.size w w'
def RAllRet (bytes : List UInt8) (w : World) : Ending → World → Prop := AllRet (if bytes.length % 28 = 0 then readMany (bytes.length / 28) bytes else []) (.bool (decide (bytes.length % 28 = 0))) w
theorem readMany_step {bytes R : List UInt8} {j : Nat} (hR : R = bytes.drop (28 * j)) : readMany (j + 1) bytes = readMany j bytes ++ [readW R] ∧ R.drop 28 = bytes.drop (28 * (j + 1)) := by
  subst hR
  exact ⟨readMany_snoc j bytes, by rw [List.drop_drop, show 28 * j + 28 = 28 * (j + 1) from by omega]⟩
theorem rnumB (Q : List UInt8) (ao : Option Addr) (n cap : Nat) (hQ : 4 ≤ Q.length) (hn : n = Q.length) (W : World) (hrd : Rd W ao n (byteVals Q)) : Calls Try.prog 40 #[.slice ao n cap] W (RetB (.int .u32 (num4 Q : Nat)) W) := by
  subst hn
  exact (rnumber_any Q ao cap W hQ hrd).mono fun e w' ⟨h1, m, h2⟩ => ⟨h1, by subst h2; exact ext_drewN _ _⟩
theorem allI.step {w wo w8 w9 : World} {o : Obj} {bytes R : List UInt8} {j : Nat} {a28 ao4 : Option Addr} {cap' cap4 : Nat} {g g4 : Option Nat} {css : List (List Value)} (hf : All2 (fun x cs => Rep.wk.ok wo (fun _ => False) x cs) (readMany j bytes) css)
    (hRl : R.length = bytes.length - 28 * j) (hj : 28 * j ≤ bytes.length) (h28 : 28 ≤ R.length) (hr : Rd w a28 (R.length - 28) ((byteVals R).drop 28)) (hcap : R.length ≤ cap') (hC : Below wo.heap.size wo w8) (hg : ∀ k, g = some k → w.heap.size ≤ k) (hB : Below w.heap.size w wo)
    (ho : Own w9 ao4 cap4 g4 31 7 (j + 1) (css.flatten ++ (wkCs (readW R)).toList)) (hg4 : g4 = g ∨ g4 = some (w8.alloc o |>.heap.size)) (hon : Only (fun k => g = some k) (w8.alloc o) w9) (hst : readMany (j + 1) bytes = readMany j bytes ++ [readW R] ∧ R.drop 28 = bytes.drop (28 * (j + 1))) :
    allI w bytes (.slice a28 (R.length - 28) (cap' - 28)) (.slice ao4 (j + 1) cap4) w9 := by
  have hB8 : Below w.heap.size w (w8.alloc o) := (hB.trans (hC.mono hB.size)).alloc (Nat.le_trans hB.size hC.size) _
  refine ⟨j + 1, R.drop 28, a28, cap' - 28, ao4, cap4, g4, hst.2, by omega, by rw [List.length_drop], by rw [List.length_drop]; omega, by rw [List.length_drop, byteVals_drop]; exact hr, rfl, ?_, fun k hk => ?_, hB8.trans (hon.below hB8.size (fun k hk h => by have := hg k h; omega))⟩
  · rw [hst.1]
    refine ⟨css ++ [(wkCs (readW R)).toList], ?_, all2_append hf (.cons ⟨rfl, readW_ok R⟩ .nil)⟩
    rw [List.flatten_append, List.length_append, readMany_len]
    rw [List.flatten_singleton]
    exact ho
  · rcases hg4 with rfl | rfl
    · exact hg k hk
    · cases hk; exact hB8.size

set_option maxRecDepth 100000 in
set_option maxHeartbeats 3200000 in
theorem rall_any (bytes : List UInt8) (ao : Option Addr) (cap : Nat) (w : World) (hl : bytes.length ≤ 30000) (hc : bytes.length ≤ cap) (hrd : Rd w ao bytes.length (byteVals bytes)) :
    Calls Try.prog 24 #[.slice ao bytes.length cap] w (RAllRet bytes w) := by
  have hE := wkElem
  have H0 := Lib.hid (show allI w bytes (.slice ao bytes.length cap) (.slice (some ⟨w.heap.size, 0, none⟩) 0 0) (w.alloc (.cells #[] 31)) from
    ⟨0, bytes, ao, cap, some ⟨w.heap.size, 0, none⟩, 0, some w.heap.size, by simp, by omega, rfl, hc, hrd, rfl, OwnS.emptyWk w, fun k h => by cases h; exact Nat.le_refl _, ext_alloc _ _⟩)
  clear hrd hc
  go_enter Try.func24, Try.ntmps24
  go_wp2_with fail
  go_loopw [0, 4] (fun v0 v4 wr => allI w bytes v0 v4 wr) (fun v0 _ _ => slLen v0)
  case atStart => exact H0.out
  case round =>
    obtain ⟨j, R, ao', cap', ao2, cap2, g, hR, hj, rfl, hcap, hrd, rfl, hO, hg, hB⟩ := hrel
    rename World => wo
    have hRl : R.length = bytes.length - 28 * j := by rw [hR, List.length_drop]
    by_cases h0 : R.length = 0
    · have hd : decide ((0 : Int) < (R.length : Int)) = false := decide_eq_false (by omega)
      have hd' : decide (0 < R.length) = false := decide_eq_false (by omega)
      have hv : bytes.length % 28 = 0 := by omega
      have hj2 : bytes.length / 28 = j := by omega
      have HF := Lib.hid (show RAllRet bytes w (.returned (.tuple #[.slice ao2 j cap2, .bool true])) wo from by
        unfold RAllRet
        rw [if_pos hv, hj2, decide_eq_true hv]
        exact ⟨ao2, cap2, _, by rw [readMany_len], hO.rd, fun b hb => by rcases hb with h | h; exact h.elim; exact hg b h, hB⟩)
      clear hR hO hg hB hrd hRl h0 hv hj2
      go_wp2_with fail
      go_ret2
      exact HF.out
    · have hd : decide ((0 : Int) < (R.length : Int)) = true := decide_eq_true (by omega)
      have hd' : decide (0 < R.length) = true := decide_eq_true (by omega)
      by_cases h28 : R.length < 28
      · have he : decide ((R.length : Int) < 28) = true := decide_eq_true (by omega)
        have he' : decide (R.length < 28) = true := decide_eq_true (by omega)
        have hv : ¬ bytes.length % 28 = 0 := by omega
        have HF := Lib.hid (fun c => (show RAllRet bytes w (.returned (.tuple #[.slice (some ⟨wo.heap.size, 0, none⟩) 0 c, .bool false])) (wo.alloc (.cells #[] 31)) from by
          unfold RAllRet
          rw [if_neg hv, decide_eq_false hv]
          exact ⟨_, _, fun _ => False, rfl, RdS.nil _ _ _ _, fun b hb => hb.elim, hB.alloc hB.size _⟩))
        clear hR hO hg hB hrd hRl h0 hv
        go_wp2_with fail
        go_ret2
        exact HF.out _
      · have he : decide ((R.length : Int) < 28) = false := decide_eq_false (by omega)
        have he' : decide (R.length < 28) = false := decide_eq_false (by omega)
        have hrd' := hrd.ext (hB.mono (Nat.le_refl _))
        have HN0 := Lib.hid (fun (W : World) (h : Below wo.heap.size wo W) => rnumB R ao' R.length cap' (by omega) rfl W (hrd'.ext h))
        obtain ⟨a4, hs4, hr4⟩ := drop_run ao' R.length cap' 4 (by omega) hcap 4 rfl
        have HN4 := Lib.hid (fun (W : World) (h : Below wo.heap.size wo W) => rnumB (R.drop 4) a4 (R.length - 4) (cap' - 4) (by rw [List.length_drop]; omega) (by rw [List.length_drop]) W (by rw [byteVals_drop]; exact hr4 W _ (hrd'.ext h)))
        clear hr4
        obtain ⟨a8, hs8, hr8⟩ := drop_run ao' R.length cap' 8 (by omega) hcap 8 rfl
        have HN8 := Lib.hid (fun (W : World) (h : Below wo.heap.size wo W) => rnumB (R.drop 8) a8 (R.length - 8) (cap' - 8) (by rw [List.length_drop]; omega) (by rw [List.length_drop]) W (by rw [byteVals_drop]; exact hr8 W _ (hrd'.ext h)))
        clear hr8
        obtain ⟨a12, hs12, hr12⟩ := drop_run ao' R.length cap' 12 (by omega) hcap 12 rfl
        have HN12 := Lib.hid (fun (W : World) (h : Below wo.heap.size wo W) => rnumB (R.drop 12) a12 (R.length - 12) (cap' - 12) (by rw [List.length_drop]; omega) (by rw [List.length_drop]) W (by rw [byteVals_drop]; exact hr12 W _ (hrd'.ext h)))
        clear hr12
        obtain ⟨a16, hs16, hr16⟩ := drop_run ao' R.length cap' 16 (by omega) hcap 16 rfl
        have HN16 := Lib.hid (fun (W : World) (h : Below wo.heap.size wo W) => rnumB (R.drop 16) a16 (R.length - 16) (cap' - 16) (by rw [List.length_drop]; omega) (by rw [List.length_drop]) W (by rw [byteVals_drop]; exact hr16 W _ (hrd'.ext h)))
        clear hr16
        obtain ⟨a20, hs20, hr20⟩ := drop_run ao' R.length cap' 20 (by omega) hcap 20 rfl
        have HN20 := Lib.hid (fun (W : World) (h : Below wo.heap.size wo W) => rnumB (R.drop 20) a20 (R.length - 20) (cap' - 20) (by rw [List.length_drop]; omega) (by rw [List.length_drop]) W (by rw [byteVals_drop]; exact hr20 W _ (hrd'.ext h)))
        clear hr20
        obtain ⟨a24, hs24, hr24⟩ := drop_run ao' R.length cap' 24 (by omega) hcap 24 rfl
        have HN24 := Lib.hid (fun (W : World) (h : Below wo.heap.size wo W) => rnumB (R.drop 24) a24 (R.length - 24) (cap' - 24) (by rw [List.length_drop]; omega) (by rw [List.length_drop]) W (by rw [byteVals_drop]; exact hr24 W _ (hrd'.ext h)))
        clear hr24
        obtain ⟨a28, hs28, hr28⟩ := drop_run ao' R.length cap' 28 (by omega) hcap 28 rfl
        have Hr := Lib.hid (hr28 w _ hrd)
        obtain ⟨css, hO1, hO2⟩ := hO
        rw [readMany_len] at hO1
        have HO := Lib.hid hO1
        have HO2 := Lib.hid hO2
        have Hg := Lib.hid hg
        have HB := Lib.hid hB
        have C0 := Lib.hid (ext_drew wo)
        have Hst := Lib.hid (readMany_step hR)
        have HRl := Lib.hid hRl
        have Hge := Lib.hid (show 28 ≤ R.length by omega)
        have hjl : j ≤ 30000 := by omega
        clear hr28 hO1 hO2 hg hB hrd hrd' hR hRl h0 h28
        go_wp2_with fail
        go_region_held3 (fun w' => True) (trivial)
          (first
            | (go_at_call 40; (with_reducible refine (HN0.out _ C0.out).mono ?_); rintro e w1 ⟨rfl, hB⟩; have C1 := Lib.hid (C0.out.trans (hB.mono C0.out.size)); clear hB)
            | (go_at_call 40; (with_reducible refine (HN4.out _ C1.out).mono ?_); rintro e w2 ⟨rfl, hB⟩; have C2 := Lib.hid (C1.out.trans (hB.mono C1.out.size)); clear hB)
            | (go_at_call 40; (with_reducible refine (HN8.out _ C2.out).mono ?_); rintro e w3 ⟨rfl, hB⟩; have C3 := Lib.hid (C2.out.trans (hB.mono C2.out.size)); clear hB)
            | (go_at_call 40; (with_reducible refine (HN12.out _ C3.out).mono ?_); rintro e w4 ⟨rfl, hB⟩; have C4 := Lib.hid (C3.out.trans (hB.mono C3.out.size)); clear hB)
            | (go_at_call 40; (with_reducible refine (HN16.out _ C4.out).mono ?_); rintro e w5 ⟨rfl, hB⟩; have C5 := Lib.hid (C4.out.trans (hB.mono C4.out.size)); clear hB)
            | (go_at_call 40; (with_reducible refine (HN20.out _ C5.out).mono ?_); rintro e w6 ⟨rfl, hB⟩; have C6 := Lib.hid (C5.out.trans (hB.mono C5.out.size)); clear hB)
            | (go_at_call 40; (with_reducible refine (HN24.out _ C6.out).mono ?_); rintro e w7 ⟨rfl, hB⟩; have C7 := Lib.hid (C6.out.trans (hB.mono C6.out.size)); clear hB)
            | (refine step_app rfl (.tmp 13) (.tmp 35) 40 40 rfl hE ((HO.out.ext C7.out).alloc _) rfl rfl (srcManyW Try.underlying40 _ _ _ _ 7 _ (by simp) rfl (by simp [Value.oneCell'])) (by simp [maxLen]; omega) (by omega) ?_; intro ao4 cap4 g4 w9 ho4 hg4 hon4; have Ho4 := Lib.hid ho4; have Hg4 := Lib.hid hg4; have Hon4 := Lib.hid hon4; clear ho4 hg4 hon4)
            | fail "no arm")
        go_wp2_with fail
        go_roundw
        case rel => exact allI.step HO2.out HRl.out hj Hge.out Hr.out hcap C7.out Hg.out HB.out Ho4.out Hg4.out Hon4.out Hst.out
        case measure => (have := Hge.out; simp only [slLen]; omega)
end Go.Proofs.Ytiojilibkdbpdaa
