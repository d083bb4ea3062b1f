/- The reference's May of a job. -/
import Derived.Test.YtlgnpogmgpgdaaaJobMay
namespace Go.Proofs.Ytlgnpogmgpgdaaa
set_option linter.unusedSimpArgs false
set_option linter.unusedVariables false
set_option maxRecDepth 100000
open Go.RowKit

set_option maxHeartbeats 1600000 in
theorem in_any (n a b : Nat) (w : World) : Calls Try.prog 58 #[.int .u32 (n : Nat), .int .u32 (a : Nat), .int .u32 (b : Nat)] w fun e w' => e = .returned (.bool (inB n a b)) ∧ w' = w := by
  by_cases h1 : a ≤ n
  · have g1 : decide ((a : Int) ≤ (n : Int)) = true := decide_eq_true (by omega)
    have g1' : decide (a ≤ n) = true := decide_eq_true h1
    go_enter Try.func58, Try.ntmps58
    go_wp2_with fail
    go_ret
    exact ⟨by simp [inB, h1], rfl⟩
  · have g1 : decide ((a : Int) ≤ (n : Int)) = false := decide_eq_false (by omega)
    have g1' : decide (a ≤ n) = false := decide_eq_false h1
    go_enter Try.func58, Try.ntmps58
    go_wp2_with fail
    go_ret
    exact ⟨by simp [inB, h1], rfl⟩
def srcI (l : List Nat) (w : World) (i : Value) (wr : World) : Prop := ∃ k m : Nat, k ≤ l.length ∧ i = .int .i64 (k : Nat) ∧ (∀ a b, (h : b < l.length) → (h' : a < b) → b < k → l[a] ≠ l[b]) ∧ wr = w.drewN m
def srcK (l : List Nat) (w : World) (k : Nat) (hk : k < l.length) (i : Value) (wr : World) : Prop := ∃ q m : Nat, ∃ hq : q ≤ k, i = .int .i64 (q : Nat) ∧ (∀ a, (h : a < q) → l[a] ≠ l[k]) ∧ wr = w.drewN m
set_option maxHeartbeats 3200000 in
theorem srcs_any (l : List Nat) (ao : Option Addr) (cap : Nat) (w : World) (hl : l.length ≤ 1000000) (hrd : Rd w ao l.length (u32s l)) :
    Calls Try.prog 59 #[.slice ao l.length cap] w fun e w' => e = .returned (.bool (srcB l)) ∧ ∃ m, w' = w.drewN m := by
  by_cases h1 : 1 ≤ l.length
  · have g1 : decide ((l.length : Int) < 1) = false := decide_eq_false (by omega)
    by_cases h2 : l.length ≤ 256
    · have g2 : decide (256 < (l.length : Int)) = false := decide_eq_false (by omega)
      obtain ⟨b, off, rfl, hb, hc⟩ := hrd.pos h1
      have Hc := Lib.hid hc
      clear hc hrd
      go_enter Try.func59, Try.ntmps59
      go_wp2_with fail
      go_loopw [3, 15] (fun _ i wr => srcI l w i wr) (fun _ i _ => l.length - (intOf i).toNat)
      case atStart => exact ⟨0, 0, Nat.zero_le _, rfl, fun a b h h' hk => by omega, rfl⟩
      case round =>
        obtain ⟨k, m, hk, rfl, hne, rfl⟩ := hrel
        have Hne := Lib.hid hne
        clear hne
        by_cases hlt : k < l.length
        · have hir : (k : Int) < (l.length : Int) := by omega
          go_wp2_with fail
          go_loopw [4] (fun i wr => srcK l w k hlt i wr) (fun i _ => k - (intOf i).toNat)
          case atStart => exact ⟨0, m, Nat.zero_le _, rfl, fun a h => by omega, rfl⟩
          case round =>
            obtain ⟨q, m2, hq, rfl, hna, rfl⟩ := hrel
            have Hna := Lib.hid hna
            clear hna
            by_cases hqk : q < k
            · have hir2 : (q : Int) < (k : Int) := by omega
              have hql : q < l.length := by omega
              have hir3 : (q : Int) < (l.length : Int) := by omega
              have c1 := Hc.out k hlt
              have c2 := Hc.out q hql
              simp only [u32s, List.getElem?_map, List.getElem?_eq_getElem hlt, List.getElem?_eq_getElem hql, Option.map_some] at c1 c2
              by_cases he : l[q] = l[k]
              · have he' : ((l[q] : Int) == (l[k] : Int)) = true := by rw [he]; simp
                go_wp2_with fail
                go_quiet (fail)
                go_wp2_with fail
                go_ret
                refine ⟨?_, m2 + nq, by rw [World.drewN_drewN]⟩
                have hnd : ¬ l.Nodup := fun h => List.pairwise_iff_getElem.1 h q k hql hlt hqk he
                simp [srcB, hnd]
              · have he' : ((l[q] : Int) == (l[k] : Int)) = false := beq_eq_false_iff_ne.2 (by omega)
                generalize hx : l[k] = x at c1 he he'
                generalize hy : l[q] = y at c2 he he'
                have Hx := Lib.hid hx
                have Hy := Lib.hid hy
                have He := Lib.hid he
                clear hx hy he
                go_wp2_with fail
                go_quiet (fail)
                go_wp2_with fail
                go_roundw
                case rel =>
                  refine ⟨q + 1, _, by omega, by go_num, fun a h => ?_, rfl⟩
                  by_cases haq : a < q
                  · exact Hna.out a haq
                  · obtain rfl : a = q := by omega
                    rw [Hx.out, Hy.out]; exact He.out
                case measure => simp [intOf]; omega
            · obtain rfl : q = k := by omega
              go_wp2_with fail
              go_roundw
              case rel =>
                refine ⟨q + 1, m2, by omega, by go_num, fun a b h h' hk' => ?_, rfl⟩
                by_cases hbq : b < q
                · exact Hne.out a b h h' hbq
                · obtain rfl : b = q := by omega
                  exact Hna.out a h'
              case measure => simp [intOf]; omega
        · obtain rfl : k = l.length := by omega
          go_wp2_with fail
          go_ret
          refine ⟨?_, m, rfl⟩
          have hnd : l.Nodup := List.pairwise_iff_getElem.2 fun a b ha hb' hab => Hne.out a b hb' hab hb'
          simp [srcB, hnd, h1, h2]
    · have g2 : decide (256 < (l.length : Int)) = true := decide_eq_true (by omega)
      go_enter Try.func59, Try.ntmps59
      go_wp2_with fail
      go_ret
      exact ⟨by simp [srcB]; omega, 0, rfl⟩
  · have g1 : decide ((l.length : Int) < 1) = true := decide_eq_true (by omega)
    go_enter Try.func59, Try.ntmps59
    go_wp2_with fail
    go_ret
    exact ⟨by simp [srcB]; omega, 0, rfl⟩
set_option maxHeartbeats 6400000 in
theorem rmay_any (j : JobD) (hj : JobOk j) (ao : Option Addr) (cap : Nat) (w : World) (hl : j.src.length ≤ 1000000) (hsrc : Rd w ao j.src.length (u32s j.src)) :
    Calls Try.prog 18 #[.agg (jobCs j ao cap)] w fun e w' => e = .returned (.bool (mayJ j)) ∧ Below w.heap.size w w' := by
  have Hs := Lib.hid (fun W (h : Below w.heap.size w W) => srcs_any j.src ao cap W hl (hsrc.ext h))
  have Hj := Lib.hid hj
  clear hj hsrc
  go_enter Try.func18, Try.ntmps18
  go_upto_region 1 with fail
  obtain ⟨w0, hw0⟩ : ∃ w0, w0 = w.alloc (.cells (jobCs j ao cap) 28) := ⟨_, rfl⟩
  rw [← hw0]
  have hcell : ∀ c v, (jobCs j ao cap)[c]? = some v → w0.cell? ⟨w.heap.size, c, none⟩ = some v := fun c v h => by
    rw [hw0, World.cell?_alloc_new]; exact h
  have q0 : w0.cell? ⟨w.heap.size, 0, none⟩ = some (.int .u8 (j.kind : Nat)) := hcell 0 _ rfl
  have q2 : w0.cell? ⟨w.heap.size, 2, none⟩ = some (.int .u32 (j.length : Nat)) := hcell 2 _ rfl
  have q3 : w0.cell? ⟨w.heap.size, 3, none⟩ = some (.int .u32 (j.walks : Nat)) := hcell 3 _ rfl
  have q5 : w0.cell? ⟨w.heap.size, 5, none⟩ = some (.int .u32 (j.stop : Nat)) := hcell 5 _ rfl
  have q6 : w0.cell? ⟨w.heap.size, 6, none⟩ = some (.int .u32 (j.od : Nat)) := hcell 6 _ rfl
  have q7 : w0.cell? ⟨w.heap.size, 7, none⟩ = some (.int .u32 (j.p : Nat)) := hcell 7 _ rfl
  have q8 : w0.cell? ⟨w.heap.size, 8, none⟩ = some (.int .u32 (j.q : Nat)) := hcell 8 _ rfl
  have q9 : w0.cell? ⟨w.heap.size, 9, none⟩ = some (.int .u32 (j.tries : Nat)) := hcell 9 _ rfl
  have q10 : w0.cell? ⟨w.heap.size, 10, none⟩ = some (.int .u32 (j.best : Nat)) := hcell 10 _ rfl
  have q11 : w0.cell? ⟨w.heap.size, 11, none⟩ = some (.int .u32 (j.bsh : Nat)) := hcell 11 _ rfl
  have q12 : w0.cell? ⟨w.heap.size, 12, none⟩ = some (.int .u32 (j.bro : Nat)) := hcell 12 _ rfl
  have q13 : w0.cell? ⟨w.heap.size, 13, none⟩ = some (.int .u32 (j.bpo : Nat)) := hcell 13 _ rfl
  have q14 : w0.cell? ⟨w.heap.size, 14, none⟩ = some (.int .u32 (j.bso : Nat)) := hcell 14 _ rfl
  obtain ⟨n, hn⟩ : ∃ n, n = j.src.length := ⟨_, rfl⟩
  have q4 : w0.cell? ⟨w.heap.size, 4, none⟩ = some (.slice ao n cap) := by rw [hn]; exact hcell 4 _ rfl
  rw [← hn] at Hs
  have HB0 := Lib.hid (show Below w.heap.size w w0 by rw [hw0]; exact ext_alloc _ _)
  have Hn := Lib.hid hn
  clear hw0 hcell hn
  have hjk := Hj.out.kind
  go_cut [3] (fun v wx => v = .bool (walkB j) ∧ wx = w0)
  case first =>
    go_wp2_with (go_at_call 58; refine (in_any _ _ _ _).mono ?_; rintro e w' ⟨rfl, rfl⟩)
    all_goals go_meet
    all_goals (refine ⟨?_, rfl⟩; simp [walkB, *]; try omega)
  case rest =>
    obtain ⟨rfl, hwx⟩ := hcut
    rw [hwx]
    clear hwx
    go_upto_region 2 with fail
    go_cut [4] (fun v wx => v = .bool (secB j) ∧ wx = w0)
    case first =>
      go_wp2_with (go_at_call 58; refine (in_any _ _ _ _).mono ?_; rintro e w' ⟨rfl, rfl⟩)
      all_goals go_meet
      all_goals (refine ⟨?_, rfl⟩; simp [secB, *]; try omega)
    case rest =>
      obtain ⟨rfl, hwx⟩ := hcut
      rw [hwx]
      clear hwx
      go_upto_region 3 with fail
      go_cut [5] (fun v wx => v = .bool (budB j) ∧ wx = w0)
      case first =>
        go_wp2_with (go_at_call 58; refine (in_any _ _ _ _).mono ?_; rintro e w' ⟨rfl, rfl⟩)
        all_goals go_meet
        all_goals (refine ⟨?_, rfl⟩; simp [budB, *]; try omega)
      case rest =>
        obtain ⟨rfl, hwx⟩ := hcut
        rw [hwx]
        clear hwx
        go_wp2_with (go_at_call 59; refine (Hs.out _ HB0.out).mono ?_; rintro e w1 ⟨rfl, mq, hw1⟩; have HW1 := Lib.hid hw1; clear hw1)
        all_goals go_ret
        all_goals (refine ⟨by simp [mayJ, *], ?_⟩; first | exact HB0.out | (rw [HW1.out]; exact HB0.out.trans ((ext_drewN _ _).mono HB0.out.size)))
end Go.Proofs.Ytlgnpogmgpgdaaa
