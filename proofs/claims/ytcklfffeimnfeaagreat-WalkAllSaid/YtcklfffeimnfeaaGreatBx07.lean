/- Texts merged into one: WkMay, MixPlain, Mix, MixRow, MixBelow. -/
import Derived.Test.YtcklfffeimnfeaaGreatBx06
import Derived.Test.YtcklfffeimnfeaaGreatBx00
import Derived.Laws.Bits64
import Derived.Test.YtcklfffeimnfeaaGreatProg
import Derived.Deep.QuietTactic
import Derived.BigQuiet
import Derived.Deep.RegionHeld3
set_option maxRecDepth 100000
set_option maxHeartbeats 12800000
set_option linter.unusedSimpArgs false
set_option linter.unusedVariables false
namespace Go.Proofs.YtcklfffeimnfeaaGreat
open Go.RowKit

def mayW (j : JobD) (x : WkD) : Bool :=
  if srcH j x.id = false ∨ j.length < x.step ∨ j.tries ≤ x.try_ then false
  else if x.step = 0 then decide (x = newJ j x.id)
  else if j.kind ≠ 2 ∧ (x.prev ≠ 0 ∨ x.try_ ≠ 0) then false
  else if x.state = 0 then decide (x.next = 0)
  else decide (x.state = 1) && (decide (j.kind = 2) && decide (x.step < j.length))

def WkCells (w : World) (b : Nat) (x : WkD) : Prop := w.cell? ⟨b, 0, none⟩ = some (.int .u32 (x.id : Nat)) ∧ w.cell? ⟨b, 1, none⟩ = some (.int .u32 (x.step : Nat)) ∧ w.cell? ⟨b, 2, none⟩ = some (.int .u32 (x.at_ : Nat)) ∧ w.cell? ⟨b, 3, none⟩ = some (.int .u32 (x.prev : Nat)) ∧ w.cell? ⟨b, 4, none⟩ = some (.int .u32 (x.next : Nat)) ∧ w.cell? ⟨b, 5, none⟩ = some (.int .u32 (x.try_ : Nat)) ∧ w.cell? ⟨b, 6, none⟩ = some (.int .u32 (x.state : Nat))
theorem WkCells.keep {w w' : World} {b : Nat} {x : WkD} (h : WkCells w b x) (hk : w'.heap[b]? = w.heap[b]?) : WkCells w' b x := by
  obtain ⟨a0, a1, a2, a3, a4, a5, a6⟩ := h
  exact ⟨(World.cell?_of_block (w := w) hk).trans a0, (World.cell?_of_block (w := w) hk).trans a1, (World.cell?_of_block (w := w) hk).trans a2, (World.cell?_of_block (w := w) hk).trans a3, (World.cell?_of_block (w := w) hk).trans a4, (World.cell?_of_block (w := w) hk).trans a5, (World.cell?_of_block (w := w) hk).trans a6⟩
def JbCells (w : World) (b : Nat) (j : JobD) : Prop := w.cell? ⟨b, 0, none⟩ = some (.int .u8 (j.kind : Nat)) ∧ w.cell? ⟨b, 2, none⟩ = some (.int .u32 (j.length : Nat)) ∧ w.cell? ⟨b, 9, none⟩ = some (.int .u32 (j.tries : Nat))
end Go.Proofs.YtcklfffeimnfeaaGreat

namespace Go.Proofs.YtcklfffeimnfeaaGreat
open Go.RowKit

def shx (k : Int) (n : Int) : Int := bits BinOp.xor IntKind.u64 n (n / k)
def mixZ (n : Int) : Int :=
  shx 2147483648 (IntKind.u64.wrap (shx 134217728 (IntKind.u64.wrap (shx 1073741824 (IntKind.u64.wrap (n + 11400714819323198485)) * 13787848793156543929)) * 10723151780598845931))
def drawZ (s w t a : Int) : Int := mixZ (bits BinOp.xor IntKind.u64 (mixZ (bits BinOp.xor IntKind.u64 (mixZ (bits BinOp.xor IntKind.u64 (mixZ s) w)) t)) a)

def adN (n : Nat) : Nat := (n + 11400714819323198485) % 18446744073709551616
def muN (k c n : Nat) : Nat := (n ^^^ n / k) * c % 18446744073709551616
def shN (k n : Nat) : Nat := n ^^^ n / k
def mixN (n : Nat) : Nat := shN 2147483648 (muN 134217728 10723151780598845931 (muN 1073741824 13787848793156543929 (adN n)))
def drawN (s w t a : Nat) : Nat := mixN (mixN (mixN (mixN s ^^^ w) ^^^ t) ^^^ a)

end Go.Proofs.YtcklfffeimnfeaaGreat

namespace Go.Proofs.YtcklfffeimnfeaaGreat
open Go.RowKit

theorem mix_any (n : Int) (w : World) :
    Calls Tryz.prog 132 #[.int .u64 n] w fun e w' => e = .returned (.int .u64 (mixZ n)) ∧ w = w' := by
  go_enter Tryz.func132, Tryz.ntmps132
  go_wp2
  go_ret
  exact ⟨rfl, rfl⟩

theorem rmix_any (n : Int) (w : World) :
    Calls Tryz.prog 146 #[.int .u64 n] w fun e w' => e = .returned (.int .u64 (mixZ n)) ∧ w = w' := by
  go_enter Tryz.func146, Tryz.ntmps146
  go_wp2
  go_ret
  exact ⟨by simp [u64_quo_w, mixZ, shx], rfl⟩


theorem draw_any (s k t a : Int) (w : World) :
    Calls Tryz.prog 131 #[.agg #[.int .u64 s, .int .u64 k, .int .u64 t, .int .u64 a]] w fun e w' => e = .returned (.int .u64 (drawZ s k t a)) ∧ Below w.heap.size w w' := by
  go_enter Tryz.func131, Tryz.ntmps131
  go_wp2_with fail
  go_quiet ((go_at_call 132; exact Calls.quiet_of_same ((mix_any _ _).mono fun _ _ ⟨h, k⟩ => ⟨h, k.symm⟩)))
  go_wp2
  go_ret
  exact ⟨rfl, below_drewN (ext_alloc _ _) _⟩

theorem rdraw_any (s k t a : Int) (w : World) :
    Calls Tryz.prog 145 #[.agg #[.int .u64 s, .int .u64 k, .int .u64 t, .int .u64 a]] w fun e w' => e = .returned (.int .u64 (drawZ s k t a)) ∧ Below w.heap.size w w' := by
  go_enter Tryz.func145, Tryz.ntmps145
  go_wp2_with (go_at_call 146; refine (rmix_any _ _).mono ?_; rintro e w' ⟨rfl, rfl⟩)
  go_ret
  exact ⟨rfl, ext_alloc _ _⟩

end Go.Proofs.YtcklfffeimnfeaaGreat

namespace Go.Proofs.YtcklfffeimnfeaaGreat
open Go.RowKit

/-- a row's number k -/
def rowZ (d : Int) : Nat → Int
  | 0 => d
  | k + 1 => mixZ (rowZ d k)
def rowOk (d : Int) (pre : List Int) : Prop := pre = (List.range pre.length).map (rowZ d)
theorem rowOk_nil (d : Int) : rowOk d [] := rfl
theorem rowOk_snoc {d : Int} {pre : List Int} (h : rowOk d pre) : rowOk d (pre ++ [rowZ d pre.length]) := by
  unfold rowOk at *
  rw [List.length_append, List.length_singleton, List.range_succ, List.map_append, ← h]
  rfl

theorem rowOk_last {d x : Int} {pre : List Int} (h : rowOk d pre) (h1 : rowOk d (pre ++ [x])) : x = rowZ d pre.length := by
  unfold rowOk at h1 h
  rw [List.length_append, List.length_singleton, List.range_succ, List.map_append, ← h] at h1
  simpa using h1

def RowRel (d : Int) (J : List Int → (Nat → Prop) → World → Prop) (fp : Nat → Prop) (W : World) (N m : Nat) (v : Value) (wr : World) : Prop :=
  ∃ (pre : List Int) (fp1 : Nat → Prop), m + pre.length = N ∧ v = .int .u64 (rowZ d pre.length) ∧ rowOk d pre ∧ J pre fp1 wr ∧ Fwd fp fp1 W wr

attribute [local go_sem] Oper.semAt_some

theorem row_iter (b : Nat) (s k t a : Int) (N : Nat) :
    Iter Tryz.prog 130 #[.pointer (some ⟨b, 0, none⟩)] (fun x : Int => #[.int .u64 x]) (rowOk (drawZ s k t a)) (fun _ => False) (fun pre => pre.length ≤ N) (fun _ _ _ => True)
      (fun W => W.cell? ⟨b, 0, none⟩ = some (.int .u64 s) ∧ W.cell? ⟨b, 1, none⟩ = some (.int .u64 k) ∧ W.cell? ⟨b, 2, none⟩ = some (.int .u64 t) ∧ W.cell? ⟨b, 3, none⟩ = some (.int .u64 a)) (fun _ => False) := by
  rintro l J Jx fp W ⟨hc0, hc1, hc2, hc3⟩ hfp hJ hJx hBd hY h0
  refine callsIn_of_wp Tryz.func130 rfl trivial ?_
  simp only [Tryz.ntmps130, List.size_toArray, List.length_cons, List.length_nil, Nat.reduceAdd, Nat.reduceSub, Array.replicate_succ, Array.replicate_zero, List.push_toArray, List.append_toArray, List.nil_append, List.cons_append]
  have hf0 : ∀ k, fp k → k < W.heap.size := fun k hk => (hfp k hk).1
  have HJ := Lib.hid hJ
  have HJx := Lib.hid hJx
  have HBd := Lib.hid hBd
  have HY := Lib.hid hY
  have H0 := Lib.hid h0
  have Hf := Lib.hid hf0
  clear hJ hJx hBd hY h0 hfp hf0
  have hdr := draw_any s k t a
  gi_wp2_with (gi_at_call 131; refine (callsIn_wide.2 (hdr _)).mono ?_; rintro e w1 ⟨rfl, hB1⟩)
  have H1 := Lib.hid (J_ext HJ.out H0.out Hf.out hB1)
  have HF1 : Hid (Fwd fp fp W w1) := (Fwd.refl Hf.out).ext hB1
  clear hdr hc0 hc1 hc2 hc3
  gi_loopw [3] (fun v wr => ∃ m, RowRel (drawZ s k t a) J fp W N m v wr) (fun v wr => leastOf (fun m => RowRel (drawZ s k t a) J fp W N m v wr))
  case atStart => exact ⟨N, [], fp, rfl, rfl, rowOk_nil _, H1.out, HF1.out⟩
  case round =>
    obtain ⟨hsp, hmin⟩ := leastOf_spec hrel
    have Hmin := Lib.hid hmin
    clear hmin hrel
    obtain ⟨pre, fp1, hN, hu, hok, hj, hfw⟩ := hsp
    subst hu
    have HN := Lib.hid hN
    have Hok := Lib.hid hok
    have Hj := Lib.hid hj
    have Hfw := Lib.hid hfw
    clear hN hok hj hfw
    obtain ⟨fn, tmps, assign, body, hy, hR⟩ := HY.out pre fp1 _ wr Hj.out (fun k hk => (Hfw.out.own k hk).2) (Hfw.out.only.mono (fun k _ hk => .inl hk)) (rowOk_snoc Hok.out) trivial
    gi_wp2
    refine hR.mono ?_
    clear hR hy
    rintro e W2 ⟨fp2, hfw2, (⟨rfl, hj2⟩ | ⟨rfl, hjx2⟩)⟩
    · have Hj2 := Lib.hid hj2
      have Hfw2 := Lib.hid hfw2
      clear hj2 hfw2
      gi_wp2_with (gi_at_call 132; refine (callsIn_wide.2 (mix_any _ _)).mono ?_; rintro e w' ⟨rfl, rfl⟩)
      have hrel2 : ∀ m2, m2 + 1 + pre.length = N → RowRel (drawZ s k t a) J fp W N m2 (.int .u64 (mixZ (rowZ (drawZ s k t a) pre.length))) W2 := fun m2 h2 =>
        ⟨pre ++ [rowZ (drawZ s k t a) pre.length], fp2, by simp; omega, by simp [rowZ], rowOk_snoc Hok.out, Hj2.out, Hfw.out.trans Hfw2.out⟩
      have hb2 := HBd.out _ _ _ Hj2.out
      rw [List.length_append, List.length_singleton] at hb2
      have hN := HN.out
      go_roundw
      case rel => exact ⟨_, hrel2 (N - 1 - pre.length) (by omega)⟩
      case measure => exact Nat.lt_of_le_of_lt (leastOf_le (p := fun m => RowRel (drawZ s k t a) J fp W N m (.int .u64 (mixZ (rowZ (drawZ s k t a) pre.length))) W2) (hrel2 (N - 1 - pre.length) (by omega))) (by show _ < leastOf (fun n => RowRel (drawZ s k t a) J fp W N n (Value.int IntKind.u64 (rowZ (drawZ s k t a) pre.length)) wr); omega)
    · gi_wp2
      go_end0
      exact ⟨⟨_, rfl⟩, _, fp2, (Hfw.out.trans hfw2).wider (fun k hk => .inl hk), fun i hi => ((Hfw.out.trans hfw2).own i hi).1, .inr ⟨rowOk_snoc Hok.out, hjx2⟩⟩

theorem row_any (s k t a : Int) (w : World) :
    Calls Tryz.prog 90 #[.agg #[.int .u64 s, .int .u64 k, .int .u64 t, .int .u64 a]] w fun e w' => e = .returned (.func (.func 130) #[] #[.pointer (some ⟨w.heap.size, 0, none⟩)]) ∧ w' = w.alloc (.cells #[.int .u64 s, .int .u64 k, .int .u64 t, .int .u64 a] 100) := by
  have hmf : ∀ (fn : Fn) (first cap : Array Value) (w : World), (Instr.makeFunc fn first cap).run Tryz.prog w = .ok (.func fn first cap) w := fun _ _ _ _ => rfl
  go_enter Tryz.func90, Tryz.ntmps90
  go_wp2
  go_ret
  exact ⟨rfl, rfl⟩
end Go.Proofs.YtcklfffeimnfeaaGreat

namespace Go.Proofs.YtcklfffeimnfeaaGreat
open Go.RowKit

/-- the first of a row's numbers, from i on, that is at most b; at last the one behind f more -/
def findRow (d b : Int) : Nat → Nat → Int
  | 0, i => rowZ d i
  | f + 1, i => if rowZ d i ≤ b then rowZ d i else findRow d b f (i + 1)
theorem findRow_hit {d b : Int} {i : Nat} (h : rowZ d i ≤ b) {f : Nat} : findRow d b f i = rowZ d i := by
  cases f with
  | zero => rfl
  | succ f => rw [findRow, if_pos h]
def overZ (n : Int) : Int := 18446744073709551616 % n
def belowZ (d n : Int) : Int := if n = 0 then 0 else findRow d (18446744073709551615 - overZ n) 127 0 % n

theorem belowZ_lt (d n : Int) (h : 1 ≤ n) : 0 ≤ belowZ d n ∧ belowZ d n < n := by
  unfold belowZ
  rw [if_neg (by omega)]
  exact ⟨Int.emod_nonneg _ (by omega), Int.emod_lt_of_pos _ (by omega)⟩
theorem over_prog (n : Int) (h : 1 ≤ n) (h1 : n ≤ 18446744073709551615) : (IntKind.u64.wrap (-n)).tmod n = overZ n := by
  rw [Int.tmod_eq_emod_of_nonneg (u64_bd _).1, u64_mod]
  unfold overZ
  have e : -n % 18446744073709551616 = 18446744073709551616 - n := by omega
  rw [e, Int.sub_emod_right]
theorem over_ref (n : Int) (h : 1 ≤ n) : (18446744073709551615 % n + 1) % n = overZ n := by
  unfold overZ
  rw [Int.emod_add_emod]; rfl
theorem over_bd (n : Int) (h : 1 ≤ n) : 0 ≤ overZ n ∧ overZ n < n := ⟨Int.emod_nonneg _ (by omega), Int.emod_lt_of_pos _ (by omega)⟩
theorem mixZ_bd (n : Int) : 0 ≤ mixZ n ∧ mixZ n ≤ 18446744073709551615 := by
  unfold mixZ
  generalize IntKind.u64.wrap (shx 134217728 (IntKind.u64.wrap (shx 1073741824 (IntKind.u64.wrap (n + 11400714819323198485)) * 13787848793156543929)) * 10723151780598845931) = c
  exact u64_bd _
theorem drawZ_bd (s k t a : Int) : 0 ≤ drawZ s k t a ∧ drawZ s k t a ≤ 18446744073709551615 := mixZ_bd _
theorem rowZ_bd (d : Int) (hd : 0 ≤ d ∧ d ≤ 18446744073709551615) (i : Nat) : 0 ≤ rowZ d i ∧ rowZ d i ≤ 18446744073709551615 := by
  cases i with
  | zero => exact hd
  | succ i => exact mixZ_bd _

theorem rbelow_any (s k t a n : Int) (w : World) (hn0 : 0 ≤ n) (hn1 : n ≤ 18446744073709551615) :
    Calls Tryz.prog 117 #[.agg #[.int .u64 s, .int .u64 k, .int .u64 t, .int .u64 a], .int .u64 n] w fun e w' => e = .returned (.int .u64 (belowZ (drawZ s k t a) n)) ∧ Below w.heap.size w w' := by
  by_cases h0 : n = 0
  · subst h0
    go_enter Tryz.func117, Tryz.ntmps117
    go_wp2
    go_ret
    exact ⟨rfl, ext_alloc _ _⟩
  · have hne : (n == 0) = false := by simpa using h0
    have hpos : 1 ≤ n := by omega
    have ho := over_bd n hpos
    have hov := Lib.hid (over_ref n hpos)
    have hd := drawZ_bd s k t a
    have hb0 := Int.emod_nonneg 18446744073709551615 (by omega : n ≠ 0)
    have hb1 := Int.emod_lt_of_pos 18446744073709551615 (by omega : 0 < n)
    have hdr := rdraw_any s k t a
    generalize drawZ s k t a = d at *
    go_enter Tryz.func117, Tryz.ntmps117
    go_wp2_with (go_at_call 145; refine (hdr _).mono ?_; rintro e w1 ⟨rfl, hB1⟩)
    clear hdr
    have hres : belowZ d n = findRow d (18446744073709551615 - overZ n) 127 0 % n := by rw [belowZ, if_neg h0]
    have Hres := Lib.hid hres
    clear hres hov hb0 hb1
    rw [show (18446744073709551616 % n) = overZ n from rfl]
    generalize overZ n = o at *
    go_loop [7, 8] (fun x i => ∃ j : Nat, j ≤ 127 ∧ i = .int .i64 (j + 1) ∧ x = .int .u64 (rowZ d j) ∧ Hid (findRow d (18446744073709551615 - o) 127 0 = findRow d (18446744073709551615 - o) (127 - j) j)) (fun _ i => 129 - (intOf i).toNat)
    case atStart => exact ⟨0, by omega, rfl, rfl, rfl⟩
    case round =>
      obtain ⟨j, hj, rfl, rfl, hf⟩ := hrel
      have hr := rowZ_bd d hd j
      by_cases hlt : j < 127
      · by_cases hle : rowZ d j ≤ 18446744073709551615 - o
        · have e1 : findRow d (18446744073709551615 - o) (127 - j) j = rowZ d j := by
            rw [show 127 - j = (126 - j) + 1 from by omega, findRow, if_pos hle]
          have E1 := Lib.hid e1
          clear e1
          go_wp2_with (go_at_call 146; refine (rmix_any _ _).mono ?_; rintro e w' ⟨rfl, rfl⟩)
          go_ret
          exact ⟨by rw [Hres.out, hf.out, E1.out]; rfl, (ext_alloc _ _).trans (hB1.mono (by simp))⟩
        · have e1 : findRow d (18446744073709551615 - o) (127 - j) j = findRow d (18446744073709551615 - o) (127 - (j + 1)) (j + 1) := by
            rw [show 127 - j = (127 - (j + 1)) + 1 from by omega, findRow, if_neg hle]
          have E1 := Lib.hid e1
          clear e1
          have hlo : 18446744073709551615 - o < rowZ d j := by omega
          go_wp2_with (go_at_call 146; refine (rmix_any _ _).mono ?_; rintro e w' ⟨rfl, rfl⟩)
          go_round
          case rel => exact ⟨j + 1, by omega, by go_num, rfl, hf.out.trans E1.out⟩
          case measure => simp [intOf]; omega
      · obtain rfl : j = 127 := by omega
        go_wp2_with fail
        go_ret
        exact ⟨by rw [Hres.out, hf.out]; rfl, (ext_alloc _ _).trans (hB1.mono (by simp))⟩

attribute [local go_sem] Oper.semAt_some
theorem below_any (s k t a n : Int) (w : World) (hn0 : 0 ≤ n) (hn1 : n ≤ 18446744073709551615) :
    Calls Tryz.prog 51 #[.agg #[.int .u64 s, .int .u64 k, .int .u64 t, .int .u64 a], .int .u64 n] w fun e w' => e = .returned (.int .u64 (belowZ (drawZ s k t a) n)) ∧ Below w.heap.size w w' := by
  by_cases h0 : n = 0
  · subst h0
    refine (callsIn_wide (n := 0)).1 (callsIn_of_wp_marks Tryz.func51 rfl trivial ?_)
    simp only [Tryz.ntmps51, List.size_toArray, List.length_cons, List.length_nil, Nat.reduceAdd, Nat.reduceSub, Array.replicate_succ, Array.replicate_zero, List.push_toArray, List.append_toArray, List.nil_append, List.cons_append]
    gi_wp2
    refine ⟨_, ?_, rfl, ?_⟩
    · simp [results, Tryz.results51, go_sem]; rfl
    · exact ((ext_alloc w _).alloc (by simp) _).alloc (by simp; omega) _
  · have hne : (n == 0) = false := by simpa using h0
    have hpos : 1 ≤ n := by omega
    have ho := over_bd n hpos
    have hov := over_prog n hpos hn1
    have hd := drawZ_bd s k t a
    have hit := fun b => row_iter b s k t a 127
    have hrow := row_any s k t a
    generalize drawZ s k t a = d at *
    have hres : belowZ d n = findRow d (18446744073709551615 - overZ n) 127 0 % n := by rw [belowZ, if_neg h0]
    have Hres := Lib.hid hres
    have Hit := Lib.hid hit
    clear hres hit
    generalize overZ n = o at *
    refine (callsIn_wide (n := 0)).1 (callsIn_of_wp_marks Tryz.func51 rfl trivial ?_)
    simp only [Tryz.ntmps51, List.size_toArray, List.length_cons, List.length_nil, Nat.reduceAdd, Nat.reduceSub, Array.replicate_succ, Array.replicate_zero, List.push_toArray, List.append_toArray, List.nil_append, List.cons_append]
    gi_wp2_with (gi_at_call 90; refine (callsIn_wide.2 (hrow _)).mono ?_; rintro e w2 ⟨rfl, rfl⟩)
    refine wpIn_world fun w2 hw2 => ?_
    have t0 : ∀ i, w2.cell? ⟨w.heap.size + 1 + 1 + 1 + 1 + 1, i, none⟩ = #[Value.int IntKind.u64 s, Value.int IntKind.u64 k, Value.int IntKind.u64 t, Value.int IntKind.u64 a][i]? := by intro i; rw [hw2]; simp [go_sem]
    have c1 : w2.cell? ⟨w.heap.size + 1, 0, none⟩ = some (.int .u64 n) := by rw [hw2]; simp [go_sem, ↓IntWalk.iteOmega]
    have c2 : w2.cell? ⟨w.heap.size + 1 + 1, 0, none⟩ = some (.int .u64 0) := by rw [hw2]; simp [go_sem, ↓IntWalk.iteOmega]
    have f2 : w2.frozen? ⟨w.heap.size + 1 + 1, 0, none⟩ = false := by rw [hw2]; simp [go_sem, ↓IntWalk.iteOmega]
    have c3 : w2.cell? ⟨w.heap.size + 1 + 1 + 1, 0, none⟩ = some (.int .u64 o) := by rw [hw2]; simp [go_sem, ↓IntWalk.iteOmega]
    have c4 : w2.cell? ⟨w.heap.size + 1 + 1 + 1 + 1, 0, none⟩ = some (.int .i64 0) := by rw [hw2]; simp [go_sem, ↓IntWalk.iteOmega]
    have f4 : w2.frozen? ⟨w.heap.size + 1 + 1 + 1 + 1, 0, none⟩ = false := by rw [hw2]; simp [go_sem, ↓IntWalk.iteOmega]
    have hs2 : w2.heap.size = w.heap.size + 6 := by rw [hw2]; simp
    have hB2 : Below w.heap.size w w2 := by
      rw [hw2]
      exact (((((ext_alloc w _).alloc (by simp) _).alloc (by simp; omega) _).alloc (by simp; omega) _).alloc (by simp; omega) _).alloc (by simp; omega) _
    clear hw2 hov hrow
    have C1 := Lib.hid c1
    have C3 := Lib.hid c3
    have HB := Lib.hid hB2
    have HS := Lib.hid hs2
    clear c1 c3 hB2 hs2
    refine wpIn_range1 (gf := 130) (lb := #[.pointer (some ⟨w.heap.size + 1 + 1 + 1 + 1 + 1, 0, none⟩)]) rfl (enters_of Tryz.func130 (by kernel_rfl) rfl) (Hit.out (w.heap.size + 1 + 1 + 1 + 1 + 1)) (fun _ => rfl)
      (fun b => b = w.heap.size + 1 + 1 ∨ b = w.heap.size + 1 + 1 + 1 + 1) (fun b hb => ⟨by have := HS.out; omega, fun h => h⟩) (fun b h => h.elim)
      (fun pre W => rowOk d pre ∧ pre.length ≤ 127 ∧ (W.cell? ⟨w.heap.size + 1 + 1, 0, none⟩ = some (.int .u64 0) ∧ W.frozen? ⟨w.heap.size + 1 + 1, 0, none⟩ = false) ∧ (W.cell? ⟨w.heap.size + 1 + 1 + 1 + 1, 0, none⟩ = some (.int .i64 pre.length) ∧ W.frozen? ⟨w.heap.size + 1 + 1 + 1 + 1, 0, none⟩ = false)
        ∧ findRow d (18446744073709551615 - o) 127 0 = findRow d (18446744073709551615 - o) (127 - pre.length) pre.length)
      (fun c pre W => c = .ret ∧ W.cell? ⟨w.heap.size + 1 + 1, 0, none⟩ = some (.int .u64 (belowZ d n)))
      (fun pre A B h hs => ⟨h.1, h.2.1, ⟨(hs.cell (.inl rfl) 0).trans h.2.2.1.1, (hs.frozen (.inl rfl) 0).trans h.2.2.1.2⟩, ⟨(hs.cell (.inr rfl) 0).trans h.2.2.2.1.1, (hs.frozen (.inr rfl) 0).trans h.2.2.2.1.2⟩, h.2.2.2.2⟩)
      (fun c pre A B h hs => ⟨h.1, (hs.cell (.inl rfl) 0).trans h.2⟩)
      (fun pre A h => h.2.1)
      (fun W hb => ⟨(hb.cell (p := ⟨_, 0, none⟩) (by have := HS.out; simp; omega)).trans (t0 0), (hb.cell (p := ⟨_, 1, none⟩) (by have := HS.out; simp; omega)).trans (t0 1), (hb.cell (p := ⟨_, 2, none⟩) (by have := HS.out; simp; omega)).trans (t0 2), (hb.cell (p := ⟨_, 3, none⟩) (by have := HS.out; simp; omega)).trans (t0 3)⟩)
      ⟨rowOk_nil _, by simp, ⟨c2, f2⟩, ⟨c4, f4⟩, rfl⟩
      [(16, fun x => .int .u64 x), (7, fun x => .int .u64 x)] ?assign ?body ?done ?stop
    case assign =>
      intro l x W K hK
      gi_wp2
      exact hK
    case body =>
      rintro l pre x W W0 _ _ honly hok _ _ ⟨hpre, hlen, ⟨hc2, hf2⟩, ⟨hc4, hf4⟩, hfr⟩ _
      simp only [List.foldl_cons, List.foldl_nil, List.setIfInBounds_toArray, List.set_cons_zero, List.set_cons_succ]
      have hs2 := HS.out
      have hc1 : W.cell? ⟨w.heap.size + 1, 0, none⟩ = some (.int .u64 n) := (honly.cell (by omega) (by rintro ((h | h) | h) <;> omega) 0).trans C1.out
      have hc3 : W.cell? ⟨w.heap.size + 1 + 1 + 1, 0, none⟩ = some (.int .u64 o) := (honly.cell (by omega) (by rintro ((h | h) | h) <;> omega) 0).trans C3.out
      have hx : x = rowZ d pre.length := rowOk_last hpre hok
      subst hx
      have hbx := rowZ_bd d hd pre.length
      have Hok := Lib.hid hok
      have Hfr := Lib.hid hfr
      clear hok hpre honly c2 c4 f2 f4 t0 hfr hs2
      have hlow : 0 ≤ 18446744073709551615 - o ∧ 18446744073709551615 - o ≤ 18446744073709551615 := by omega
      by_cases hle : rowZ d pre.length ≤ 18446744073709551615 - o
      · have hdle : decide (rowZ d pre.length ≤ 18446744073709551615 - o) = true := by simpa using hle
        have hfin : belowZ d n = rowZ d pre.length % n := by rw [Hres.out, Hfr.out, findRow_hit hle]
        have Hfin := Lib.hid hfin
        clear hfin
        gi_wp2
        exact ⟨((Only.refl _ _).setCell (fun _ => .inr rfl) _).setCell (fun _ => .inl rfl) _, rfl, by rw [Hfin.out]; simp [cell_set_ite, hc2]⟩
      · have hdle : decide (rowZ d pre.length ≤ 18446744073709551615 - o) = false := by simpa using hle
        have hlo : 18446744073709551615 - o < rowZ d pre.length := by omega
        by_cases hlt : pre.length < 127
        · have hne8 : ((pre.length : Int) + 1 == 128) = false := by simp; omega
          have hfin : findRow d (18446744073709551615 - o) 127 0 = findRow d (18446744073709551615 - o) (127 - (pre.length + 1)) (pre.length + 1) := by
            rw [Hfr.out, show 127 - pre.length = (127 - (pre.length + 1)) + 1 from by omega, findRow, if_neg hle]
          have Hfin := Lib.hid hfin
          clear hfin
          gi_wp2
          exact ⟨(Only.refl _ _).setCell (fun _ => .inr rfl) _, Hok.out, by simp; omega, ⟨by simp [cell_set_ite, hc2], by simp [hf2]⟩, ⟨by simp [cell_set_ite, hc4], by simp [hf4]⟩, by rw [List.length_append, List.length_singleton]; exact Hfin.out⟩
        · have hlen7 : pre.length = 127 := by omega
          have hne8 : ((pre.length : Int) + 1 == 128) = true := by simp; omega
          have hfin : belowZ d n = rowZ d pre.length % n := by rw [Hres.out, Hfr.out, hlen7]; rfl
          have Hfin := Lib.hid hfin
          clear hfin hlen7
          gi_wp2
          exact ⟨((Only.refl _ _).setCell (fun _ => .inr rfl) _).setCell (fun _ => .inl rfl) _, rfl, by rw [Hfin.out]; simp [cell_set_ite, hc2]⟩
    case done =>
      rintro D xs W _ h
      exact h.elim
    case stop =>
      rintro D c xs W hD _ ⟨rfl, hc2⟩ honly hk
      have hs2 := HS.out
      dsimp only
      gi_wp2
      refine leaveM1 (v := .int .u64 (belowZ d n)) hk ?_ ⟨rfl, ?_⟩
      · have hD2 : w.heap.size + 1 + 1 ≠ D := by omega
        simp [results, Tryz.results51, go_sem, hD2, hc2]
      · exact ext_put (HB.out.trans (honly.below (by omega) (by rintro k hk ((h | h) | h) <;> omega))) (by omega)
end Go.Proofs.YtcklfffeimnfeaaGreat
