/- Texts merged into one: Sort7, SortNil, Sort8, JobMayP. -/
import Derived.Test.YtcklfffeimnfeaaGreatBx03
import Derived.Test.YtcklfffeimnfeaaGreatBx04
import Derived.Lib.SliceRun
import Derived.Deep.Upon
import Derived.LoopN
import Derived.Test.YtcklfffeimnfeaaGreatBx02
import Derived.Lib.LazyBuf
set_option maxRecDepth 100000
set_option maxHeartbeats 12800000
set_option linter.unusedSimpArgs false
set_option linter.unusedVariables false
namespace Go.Proofs.YtcklfffeimnfeaaGreat
open Go.RowKit

def PdqR (a b : Nat) (d : Array Nat) (w : World) (blk off : Nat) (e : Ending) (w' : World) : Prop := e = .returned (.tuple #[]) ∧ ∃ d', Sort.PermIn a b d d' ∧ Srt a b d' ∧ RowS w blk off d' w'
def pdqI (a b lim : Nat) (d : Array Nat) (w : World) (blk off : Nat) (k : Nat) (v1 v2 v3 v8 v9 : Value) (wr : World) : Prop :=
  ∃ (a' b' l' : Nat) (wb wp : Bool) (dk : Array Nat), v1 = .int .i64 (a' : Nat) ∧ v2 = .int .i64 (b' : Nat) ∧ v3 = .int .i64 (l' : Nat) ∧ v8 = .bool wb ∧ v9 = .bool wp ∧ b' - a' ≤ k ∧ k ≤ b - a ∧ l' ≤ lim ∧ PdqInv a b d a' b' dk ∧ RowS w blk off dk wr
def pdqC1 (a b lim : Nat) (d : Array Nat) (w : World) (blk off a' b' : Nat) (v3 : Value) (wr : World) : Prop :=
  ∃ (l' : Nat) (dk : Array Nat), v3 = .int .i64 (l' : Nat) ∧ l' ≤ lim ∧ PdqInv a b d a' b' dk ∧ RowS w blk off dk wr
def pdqC2 (a b : Nat) (d : Array Nat) (w : World) (blk off a' b' : Nat) (v11 v12 : Value) (wr : World) : Prop :=
  ∃ (p h : Nat) (dk : Array Nat), v11 = .int .i64 (p : Nat) ∧ v12 = .int .i64 (h : Nat) ∧ a' ≤ p ∧ p < b' ∧ PdqInv a b d a' b' dk ∧ RowS w blk off dk wr
def pdqC3 (a b : Nat) (d : Array Nat) (w : World) (blk off a' b' : Nat) (v11 : Value) (wr : World) : Prop :=
  ∃ (p : Nat) (dk : Array Nat), v11 = .int .i64 (p : Nat) ∧ a' ≤ p ∧ p < b' ∧ PdqInv a b d a' b' dk ∧ RowS w blk off dk wr
def pdqB (w : World) (v : Value) (wr : World) : Prop := ∃ t : Bool, v = .bool t ∧ w = wr
theorem pdq32_any (blk off cap : Nat) : ∀ (N a b lim : Nat) (d : Array Nat) (w : World), b - a = N → Sort.Holds e32 w blk off d → blk < w.heap.size → a ≤ b → b ≤ d.size → d.size < 65536 → lim < 65536 → LowB a b d →
    Calls Tryz.prog 149 #[.slice (some ⟨blk, off, none⟩) d.size cap, .int .i64 a, .int .i64 b, .int .i64 lim] w (PdqR a b d w blk off) := by
  intro N
  induction N using Nat.strongRecOn with
  | ind N IH =>
    intro a b lim d w hN hH hblk hab hb hsz hlim hlow
    have HIH := Lib.hid IH
    have HH := Lib.hid hH
    have hN2 : b - a ≤ N := by omega
    have HI0 := Lib.hid (PdqInv.start hab hlow)
    clear IH hH hlow hN
    go_enter Tryz.func149, Tryz.ntmps149
    go_wp2_with fail
    go_loopg [1, 2, 3, 8, 9] (b - a) (fun k v1 v2 v3 v8 v9 wr => pdqI a b lim d w blk off k v1 v2 v3 v8 v9 wr)
    case atStart => exact ⟨a, b, lim, true, true, d, rfl, rfl, rfl, rfl, rfl, Nat.le_refl _, Nat.le_refl _, Nat.le_refl _, HI0.out, HH.out, OnlyB.refl _ _⟩
    case round =>
      clear HI0
      obtain ⟨a', b', l', wb, wp, dk, rfl, rfl, rfl, rfl, rfl, hk, hkN, hl, hinv, hrs⟩ := hrel
      have i1 := hinv.lo
      have i2 := hinv.mid
      have i3 := hinv.hi
      have i4 := hinv.size
      have HI := Lib.hid hinv
      have HR := Lib.hid hrs
      have hz : blk < wr.heap.size := Nat.lt_of_lt_of_le hblk hrs.2.size
      clear hinv hrs
      by_cases h12 : b' - a' ≤ 12
      · have h12z : decide ((b' : Int) - (a' : Int) ≤ 12) = true := decide_eq_true (by omega)
        have hcall := ins32_any blk off cap a' b' dk wr HR.out.1 i2 (by omega) (by omega)
        rw [i4] at hcall
        have HC := Lib.hid hcall
        clear hcall
        go_wp2_with fail
        refine HC.out.mono ?_
        rintro e w1 ⟨rfl, n, rfl⟩
        go_wp2_with fail
        have hq := Sort.insertionSort_holds ltN_swo dk a' b' i2 (by omega)
        have hd := HI.out.done hq.1 hq.2
        (try simp only [Exit.inBlock, Exit.then])
        refine bodyPost_ret (results_none rfl _ _ _) rfl ?_
        exact ⟨rfl, _, hd.1, hd.2, HR.out.trans (rowW_rowS HR.out.1 hq.1.1)⟩
      · have h12z : decide ((b' : Int) - (a' : Int) ≤ 12) = false := decide_eq_false (by omega)
        by_cases hl0 : l' = 0
        · subst hl0
          have hcall := heap32_any blk off cap a' b' dk wr HR.out.1 i2 (by omega) (by omega)
          rw [i4] at hcall
          have HC := Lib.hid hcall
          clear hcall
          go_wp2_with fail
          refine HC.out.mono ?_
          rintro e w1 ⟨rfl, n, rfl⟩
          go_wp2_with fail
          have hq := Sort.heapSort_holds ltN_swo dk a' b' i2 (by omega)
          have hd := HI.out.done hq.1 hq.2
          (try simp only [Exit.inBlock, Exit.then])
          refine bodyPost_ret (results_none rfl _ _ _) rfl ?_
          exact ⟨rfl, _, hd.1, hd.2, HR.out.trans (rowW_rowS HR.out.1 hq.1.1)⟩
        · have hl0z : ((l' : Int) == 0) = false := by rw [beq_eq_false_iff_ne]; omega
          go_upto_if 35 with fail
          go_cut [3] (fun v wc => pdqC1 a b lim d w blk off a' b' v wc)
          case first =>
            cases wb
            · have hcall := brk32_any blk off cap a' b' dk wr HR.out.1 hz i2 (by omega) (by omega)
              rw [i4] at hcall
              have HC := Lib.hid hcall
              clear hcall
              go_wp2_with fail
              refine HC.out.mono ?_
              rintro e w1 ⟨rfl, d1, hp1, hr1⟩
              have HP1 := Lib.hid (And.intro hp1 hr1)
              clear hp1 hr1
              go_wp2_with fail
              go_meet
              exact ⟨l' - 1, d1, by congr 1; omega, by omega, HI.out.perm hb HP1.out.1, HR.out.trans HP1.out.2⟩
            · go_wp2_with fail
              go_meet
              exact ⟨l', dk, rfl, hl, HI.out, HR.out⟩
          case rest =>
            clear HR HI hz i4 dk
            obtain ⟨l2, dk, rfl, hl2, hinv, hrs⟩ := hcut
            have i4 := hinv.size
            have HI := Lib.hid hinv
            have HR := Lib.hid hrs
            have hz : blk < wc.heap.size := Nat.lt_of_lt_of_le hblk hrs.2.size
            clear hinv hrs
            have hcall := piv32_any blk off cap a' b' dk wc HR.out.1 hz (by omega) (by omega) (by omega)
            rw [i4] at hcall
            have HC := Lib.hid hcall
            clear hcall
            go_wp2_with fail
            refine HC.out.mono ?_
            clear HC
            rintro e w1 ⟨p, h, rfl, hp1, hp2, hh, ho⟩
            have HR1 := Lib.hid (show RowS w blk off dk w1 from ⟨ho.holds HR.out.1 hz (by simp), HR.out.2.trans ho (fun _ _ e => e.elim)⟩)
            have hz1 : blk < w1.heap.size := Nat.lt_of_lt_of_le hz ho.size
            clear HR hz ho
            go_upto_if 50 with fail
            go_cut [11, 12] (fun v11 v12 wc => pdqC2 a b d w blk off a' b' v11 v12 wc)
            case first =>
              by_cases h2 : h = 2
              · subst h2
                have hcall := rev32_any blk off cap a' b' dk w1 HR1.out.1 i2 (by omega) (by omega)
                rw [i4] at hcall
                have HC := Lib.hid hcall
                clear hcall
                go_wp2_with fail
                refine HC.out.mono ?_
                rintro e w2 ⟨rfl, n, rfl⟩
                have hq := Sort.reverseRange_holds dk a' b' i2 (by omega)
                have HQ := Lib.hid hq
                clear hq
                go_wp2_with fail
                go_meet
                exact ⟨(b' - 1) - (p - a'), 1, _, by congr 1; omega, rfl, by omega, by omega, HI.out.perm hb HQ.out, HR1.out.trans (rowW_rowS HR1.out.1 HQ.out.1)⟩
              · have h2z : ((h : Int) == 2) = false := by rw [beq_eq_false_iff_ne]; omega
                go_wp2_with fail
                go_meet
                exact ⟨p, h, dk, rfl, rfl, hp1, hp2, HI.out, HR1.out⟩
            case rest =>
              clear HR1 HI hz1 i4 hp1 hp2 hh dk
              obtain ⟨p2, h2, dk, rfl, rfl, hp1, hp2, hinv, hrs⟩ := hcut
              have i4 := hinv.size
              have HI := Lib.hid hinv
              have HR := Lib.hid hrs
              have hz : blk < wc.heap.size := Nat.lt_of_lt_of_le hblk hrs.2.size
              clear hinv hrs
              go_upto_region 15 with fail
              go_cut [68] (fun v wd => pdqB wc v wd)
              case first =>
                cases wb
                · go_wp2_with fail
                  go_meet
                  exact ⟨_, rfl, rfl⟩
                · cases wp
                  · go_wp2_with fail
                    go_meet
                    exact ⟨_, rfl, rfl⟩
                  · go_wp2_with fail
                    go_meet
                    exact ⟨_, rfl, rfl⟩
              case rest =>
                obtain ⟨t, rfl, rfl⟩ := hcut
                go_upto_if 68 with fail
                go_cut [11] (fun v11 wd => pdqC3 a b d w blk off a' b' v11 wd)
                case first =>
                  cases t
                  · go_wp2_with fail
                    go_meet
                    exact ⟨p2, dk, rfl, hp1, hp2, HI.out, HR.out⟩
                  · have hcall := pins32_any blk off cap a' b' dk wc HR.out.1 (by omega) (by omega) (by omega)
                    have hq := Sort.partialInsertionSort_holds ltN_swo dk a' b' (by omega) (by omega) (low_of HI.out.low)
                    rw [i4] at hcall
                    obtain ⟨⟨d1, q⟩, hx⟩ : ∃ x, Sort.partialInsertionSort ltN dk a' b' = x := ⟨_, rfl⟩
                    rw [hx] at hcall hq
                    simp only at hcall hq
                    have HC := Lib.hid hcall
                    have HQ := Lib.hid hq
                    clear hcall hq hx
                    go_wp2_with fail
                    refine HC.out.mono ?_
                    clear HC
                    rintro e w2 ⟨rfl, n, rfl⟩
                    cases q
                    · go_wp2_with fail
                      go_meet
                      exact ⟨p2, d1, rfl, hp1, hp2, HI.out.perm hb HQ.out.1, HR.out.trans (rowW_rowS HR.out.1 HQ.out.1.1)⟩
                    · go_wp2_with fail
                      have hd := HI.out.done HQ.out.1 (HQ.out.2 (by simp))
                      (try simp only [Exit.inBlock, Exit.then])
                      refine bodyPost_ret (results_none rfl _ _ _) rfl ?_
                      exact ⟨rfl, _, hd.1, hd.2, HR.out.trans (rowW_rowS HR.out.1 HQ.out.1.1)⟩
                case rest =>
                  clear HR HI hz i4 hp1 hp2 dk
                  obtain ⟨p3, dk, rfl, hp1, hp2, hinv, hrs⟩ := hcut
                  have i4 := hinv.size
                  have HI := Lib.hid hinv
                  have HR := Lib.hid hrs
                  have hz : blk < wc.heap.size := Nat.lt_of_lt_of_le hblk hrs.2.size
                  clear hinv hrs
                  obtain ⟨G, hG⟩ : ∃ G : Nat → Nat, ∀ t, G t = dk[t]! := ⟨fun t => dk[t]!, fun _ => rfl⟩
                  have hcw : ∀ t, t < d.size → wc.cell? ⟨blk, off + t, none⟩ = some (.int .u32 ((G t : Nat) : Int)) := fun t ht => by rw [hG]; exact (HR.out.1 t (by omega)).1
                  have HG := Lib.hid hG
                  clear hG
                  by_cases h0 : 0 < a'
                  · have h0z : decide ((0 : Int) < (a' : Int)) = true := decide_eq_true (by omega)
                    have h0y : decide (0 < a') = true := decide_eq_true h0
                    go_wp2_with fail
                    go_quiet ((go_at_call 164; exact Calls.quiet_of_same (less32_any _ _ _)))
                    obtain ⟨L, hL⟩ : ∃ L, L = !ltN (G (a' - 1)) (G p3) := ⟨_, rfl⟩
                    rw [← hL]
                    rw [HG.out, HG.out] at hL
                    have HL := Lib.hid hL
                    have HR3 := Lib.hid (show RowS w blk off dk (wc.drewN nq) from ⟨HR.out.1, HR.out.2.drewN _⟩)
                    generalize wc.drewN nq = w5 at HR3 ⊢
                    clear hL hcw HG HR hz wc
                    have HR := Lib.hid HR3.out
                    clear HR3
                    cases L
                    · have hcall := part32_any blk off cap a' b' p3 dk w5 HR.out.1 hp1 hp2 (by omega) (by omega)
                      rw [i4] at hcall
                      obtain ⟨⟨m, ap, d4⟩, hx⟩ : ∃ x, Sort.partition ltN dk a' b' p3 = x := ⟨_, rfl⟩
                      obtain ⟨m1, m2, m3, m4, m5, m6, m7⟩ := HI.out.left hb hp1 hp2 hx
                      rw [hx] at hcall
                      simp only at hcall
                      have HC := Lib.hid hcall
                      have HM4 := Lib.hid m4
                      have HM5 := Lib.hid m5
                      have HM6 := Lib.hid m6
                      have HM7 := Lib.hid m7
                      have hq4 : d4.size = dk.size := by rw [m3, i4]
                      clear hcall hx m4 m5 m6 m7 HI
                      go_wp2_with fail
                      refine HC.out.mono ?_
                      clear HC
                      rintro e w2 ⟨rfl, n, hw2⟩
                      have HR2 := Lib.hid (show RowS w blk off d4 w2 by rw [hw2]; exact HR.out.trans (rowW_rowS HR.out.1 hq4))
                      clear HR hw2 hq4
                      have hz2 : blk < w2.heap.size := Nat.lt_of_lt_of_le hblk HR2.out.2.size
                      by_cases hlr : m - a' < b' - m
                      · have hlz : decide ((m : Int) - (a' : Int) < (b' : Int) - (m : Int)) = true := decide_eq_true (by omega)
                        have hrec := HIH.out (m - a') (by omega) a' m l2 d4 w2 rfl HR2.out.1 hz2 m1 (by omega) (by omega) (by omega) HM4.out
                        rw [m3] at hrec
                        have HC := Lib.hid hrec
                        clear hrec
                        go_wp2_with fail
                        refine HC.out.mono ?_
                        clear HC
                        rintro e w3 ⟨rfl, d5, hp5, hs5, hr5⟩
                        have HN5 := Lib.hid (HM6.out d5 hp5 hs5)
                        have HR5 := Lib.hid (HR2.out.trans hr5)
                        clear hp5 hs5 hr5
                        go_wp2_with fail
                        go_roundg (b' - (m + 1))
                        case measure => omega
                        case rel => exact ⟨m + 1, b', l2, _, ap, d5, by go_num, rfl, rfl, rfl, rfl, Nat.le_refl _, by omega, hl2, HN5.out, HR5.out⟩
                      · have hlz : decide ((m : Int) - (a' : Int) < (b' : Int) - (m : Int)) = false := decide_eq_false (by omega)
                        have hrec := HIH.out (b' - (m + 1)) (by omega) (m + 1) b' l2 d4 w2 rfl HR2.out.1 hz2 (by omega) (by omega) (by omega) (by omega) HM5.out
                        rw [m3] at hrec
                        have HC := Lib.hid hrec
                        clear hrec
                        go_wp2_with fail
                        rw [show ((m : Int) + 1) = ((m + 1 : Nat) : Int) by omega]
                        refine HC.out.mono ?_
                        clear HC
                        rintro e w3 ⟨rfl, d5, hp5, hs5, hr5⟩
                        have HN5 := Lib.hid (HM7.out d5 hp5 hs5)
                        have HR5 := Lib.hid (HR2.out.trans hr5)
                        clear hp5 hs5 hr5
                        go_wp2_with fail
                        go_roundg (m - a')
                        case measure => omega
                        case rel => exact ⟨a', m, l2, _, ap, d5, rfl, rfl, rfl, rfl, rfl, Nat.le_refl _, by omega, hl2, HN5.out, HR5.out⟩
                    · have hcall := peq32_any blk off cap a' b' p3 dk w5 HR.out.1 hp1 hp2 (by omega) (by omega)
                      rw [i4] at hcall
                      obtain ⟨⟨m, d4⟩, hx⟩ : ∃ x, Sort.partitionEqual ltN dk a' b' p3 = x := ⟨_, rfl⟩
                      have hl := HI.out.eq hb hp1 hp2 h0 (by have := HL.out; rw [eq_comm, Bool.not_eq_true'] at this; exact this) hx
                      rw [hx] at hcall
                      simp only at hcall
                      have HC := Lib.hid hcall
                      have HE := Lib.hid hl.2
                      have hm1 := hl.1
                      have hm2 := hl.2.mid
                      have hq4 : d4.size = dk.size := by rw [hl.2.size, i4]
                      clear hcall hl hx
                      go_wp2_with fail
                      refine HC.out.mono ?_
                      clear HC
                      rintro e w2 ⟨rfl, n, hw2⟩
                      have HR2 := Lib.hid (show RowS w blk off d4 w2 by rw [hw2]; exact HR.out.trans (rowW_rowS HR.out.1 hq4))
                      clear hw2 hq4
                      go_wp2_with fail
                      go_roundg (b' - m)
                      case measure => omega
                      case rel => exact ⟨m, b', l2, wb, wp, d4, rfl, rfl, rfl, rfl, rfl, Nat.le_refl _, by omega, hl2, HE.out, HR2.out⟩
                  · have h0z : decide ((0 : Int) < (a' : Int)) = false := decide_eq_false (by omega)
                    have h0y : decide (0 < a') = false := decide_eq_false h0
                    go_wp2_with fail
                    go_quiet (fail)
                    have HR3 := Lib.hid (show RowS w blk off dk (wc.drewN nq) from ⟨HR.out.1, HR.out.2.drewN _⟩)
                    generalize wc.drewN nq = w5 at HR3 ⊢
                    clear hcw HG HR hz wc
                    have HR := Lib.hid HR3.out
                    clear HR3
                    have hcall := part32_any blk off cap a' b' p3 dk w5 HR.out.1 hp1 hp2 (by omega) (by omega)
                    rw [i4] at hcall
                    obtain ⟨⟨m, ap, d4⟩, hx⟩ : ∃ x, Sort.partition ltN dk a' b' p3 = x := ⟨_, rfl⟩
                    obtain ⟨m1, m2, m3, m4, m5, m6, m7⟩ := HI.out.left hb hp1 hp2 hx
                    rw [hx] at hcall
                    simp only at hcall
                    have HC := Lib.hid hcall
                    have HM4 := Lib.hid m4
                    have HM5 := Lib.hid m5
                    have HM6 := Lib.hid m6
                    have HM7 := Lib.hid m7
                    have hq4 : d4.size = dk.size := by rw [m3, i4]
                    clear hcall hx m4 m5 m6 m7 HI
                    go_wp2_with fail
                    refine HC.out.mono ?_
                    clear HC
                    rintro e w2 ⟨rfl, n, hw2⟩
                    have HR2 := Lib.hid (show RowS w blk off d4 w2 by rw [hw2]; exact HR.out.trans (rowW_rowS HR.out.1 hq4))
                    clear HR hw2 hq4
                    have hz2 : blk < w2.heap.size := Nat.lt_of_lt_of_le hblk HR2.out.2.size
                    by_cases hlr : m - a' < b' - m
                    · have hlz : decide ((m : Int) - (a' : Int) < (b' : Int) - (m : Int)) = true := decide_eq_true (by omega)
                      have hrec := HIH.out (m - a') (by omega) a' m l2 d4 w2 rfl HR2.out.1 hz2 m1 (by omega) (by omega) (by omega) HM4.out
                      rw [m3] at hrec
                      have HC := Lib.hid hrec
                      clear hrec
                      go_wp2_with fail
                      refine HC.out.mono ?_
                      clear HC
                      rintro e w3 ⟨rfl, d5, hp5, hs5, hr5⟩
                      have HN5 := Lib.hid (HM6.out d5 hp5 hs5)
                      have HR5 := Lib.hid (HR2.out.trans hr5)
                      clear hp5 hs5 hr5
                      go_wp2_with fail
                      go_roundg (b' - (m + 1))
                      case measure => omega
                      case rel => exact ⟨m + 1, b', l2, _, ap, d5, by go_num, rfl, rfl, rfl, rfl, Nat.le_refl _, by omega, hl2, HN5.out, HR5.out⟩
                    · have hlz : decide ((m : Int) - (a' : Int) < (b' : Int) - (m : Int)) = false := decide_eq_false (by omega)
                      have hrec := HIH.out (b' - (m + 1)) (by omega) (m + 1) b' l2 d4 w2 rfl HR2.out.1 hz2 (by omega) (by omega) (by omega) (by omega) HM5.out
                      rw [m3] at hrec
                      have HC := Lib.hid hrec
                      clear hrec
                      go_wp2_with fail
                      rw [show ((m : Int) + 1) = ((m + 1 : Nat) : Int) by omega]
                      refine HC.out.mono ?_
                      clear HC
                      rintro e w3 ⟨rfl, d5, hp5, hs5, hr5⟩
                      have HN5 := Lib.hid (HM7.out d5 hp5 hs5)
                      have HR5 := Lib.hid (HR2.out.trans hr5)
                      clear hp5 hs5 hr5
                      go_wp2_with fail
                      go_roundg (m - a')
                      case measure => omega
                      case rel => exact ⟨a', m, l2, _, ap, d5, rfl, rfl, rfl, rfl, rfl, Nat.le_refl _, by omega, hl2, HN5.out, HR5.out⟩

/-- slices.Sort: rising, the same numbers; else nothing that was there has turned. -/
theorem sort32_any (blk off cap : Nat) (d : Array Nat) (w : World) (hH : Sort.Holds e32 w blk off d) (hblk : blk < w.heap.size) (hsz : d.size < 65536) :
    Calls Tryz.prog 127 #[.slice (some ⟨blk, off, none⟩) d.size cap] w (PdqR 0 d.size d w blk off) := by
  have h8 := Lib.bitLen_le d.size 16 (by omega) (by omega)
  have hw : IntKind.u64.wrap (d.size : Int) = (d.size : Int) := by simp [IntKind.wrap, IntKind.bits, IntKind.signed]; omega
  have HL := Lib.hid (fun W => len_any d.size hsz W)
  have HP := Lib.hid (pdq32_any blk off cap d.size 0 d.size (Lib.bitLen d.size) d w (by omega) hH hblk (Nat.zero_le _) (Nat.le_refl _) hsz (by omega) (.inl rfl))
  clear hH
  go_enter Tryz.func127, Tryz.ntmps127
  go_wp2_with (first
    | (go_at_call 63; refine (HL.out _).mono ?_; rintro e w' ⟨rfl, rfl⟩)
    | (go_at_call 149; refine HP.out.mono ?_; rintro e w' ⟨rfl, hx⟩; have HX := Lib.hid hx; clear hx))
  go_end0
  exact ⟨rfl, HX.out⟩
end Go.Proofs.YtcklfffeimnfeaaGreat

namespace Go.Proofs.YtcklfffeimnfeaaGreat
open Go.RowKit

end Go.Proofs.YtcklfffeimnfeaaGreat

namespace Go.Proofs.YtcklfffeimnfeaaGreat
open Go.RowKit

/-- of numbers, those that differ from the one ahead -/
def keptN (G : Nat → Nat) : Nat → List Nat
  | 0 => []
  | r + 1 => keptN G r ++ (if r = 0 ∨ G r ≠ G (r - 1) then [G r] else [])
theorem keptN_yes {G : Nat → Nat} {r : Nat} (h : r = 0 ∨ G r ≠ G (r - 1)) : keptN G (r + 1) = keptN G r ++ [G r] := by rw [keptN, if_pos h]
theorem keptN_no {G : Nat → Nat} {r : Nat} (h : ¬ (r = 0 ∨ G r ≠ G (r - 1))) : keptN G (r + 1) = keptN G r := by rw [keptN, if_neg h, List.append_nil]
theorem keptN_le (G : Nat → Nat) : ∀ r, (keptN G r).length ≤ r
  | 0 => by simp [keptN]
  | r + 1 => by
    have := keptN_le G r
    rw [keptN, List.length_append]
    split <;> simp <;> omega
theorem keptN_all (G : Nat → Nat) : ∀ k, (∀ i, 1 ≤ i → i < k → G i ≠ G (i - 1)) → keptN G k = (List.range k).map G
  | 0, _ => rfl
  | k + 1, h => by
    rw [keptN_yes, keptN_all G k (fun i h1 h2 => h i h1 (by omega)), List.range_succ, List.map_append]
    · rfl
    · rcases Nat.eq_zero_or_pos k with h0 | h0
      · exact .inl h0
      · exact .inr (h k h0 (by omega))
theorem rangeGet (G : Nat → Nat) (k t : Nat) (h : t < k) : ((List.range k).map G)[t]! = G t := by
  rw [getElem!_pos _ t (by simpa using h)]
  simp
theorem getB (l : List Nat) (x : Nat) (t : Nat) (h : t < l.length) : (l ++ [x])[t]! = l[t]! := by
  rw [getElem!_pos _ t (by simp; omega), getElem!_pos l t h, List.getElem_append_left h]
theorem getLastB (l : List Nat) (x : Nat) : (l ++ [x])[l.length]! = x := by
  rw [getElem!_pos _ _ (by simp)]
  simp
theorem set_same (d : Array Nat) (i x : Nat) (hi : i < d.size) : (d.setIfInBounds i x)[i]! = x := Sort.getElem!_set_same d i x hi
theorem set_other (d : Array Nat) (i k x : Nat) (h : k ≠ i) : (d.setIfInBounds i x)[k]! = d[k]! := Sort.getElem!_set_other d i k x h
theorem RowS.set {w wr : World} {blk off : Nat} {d : Array Nat} (h : RowS w blk off d wr) {i : Nat} (hi : i < d.size) (x : Nat) : RowS w blk off (d.setIfInBounds i x) (wr.setCell ⟨blk, off + i, none⟩ (.int .u32 (x : Nat))) := by
  have e := Sort.putRow_set e32 wr blk off d i x hi
  rw [Sort.putRow_self e32 wr blk off d h.1] at e
  refine ⟨?_, h.2.setCell (p := ⟨blk, off + i, none⟩) (fun _ => rfl) _⟩
  rw [e]
  exact Sort.holds_putRow e32 wr blk off d _ h.1 (by simp)
theorem RowS.drewN {w wr : World} {blk off : Nat} {d : Array Nat} (h : RowS w blk off d wr) (n : Nat) : RowS w blk off d (wr.drewN n) := ⟨h.1, h.2.drewN n⟩
theorem OnlyB.setCells (b : Nat) : ∀ (vs : List Value) (o : Nat) (w : World), OnlyB (fun k => k = b) w (w.setCells b o vs)
  | [], _, w => OnlyB.refl _ _
  | v :: r, o, w => ((OnlyB.refl (fun k => k = b) w).setCell (p := ⟨b, o, none⟩) (fun _ => rfl) v).trans (OnlyB.setCells b r (o + 1) _) (fun _ _ h => h)
theorem RowS.clear {w wr : World} {blk off : Nat} {d : Array Nat} (h : RowS w blk off d wr) (q : Nat) (l : List Nat) (hl : l.length ≤ q) (hq : q ≤ d.size) (hd : ∀ t, t < l.length → d[t]! = l[t]!) (vs : List Value) :
    RowS w blk off l.toArray (wr.setCells blk (off + q) vs) := by
  refine ⟨fun j hj => ?_, h.2.trans (OnlyB.setCells _ _ _ _) (fun _ _ e => e)⟩
  simp only [List.size_toArray] at hj
  have h1 := h.1 j (by omega)
  rw [World.cell?_setCells_out blk vs _ wr _ (fun _ _ => .inl (by show off + j < off + q; omega)), World.frozen?_setCells]
  refine ⟨?_, h1.2⟩
  rw [h1.1, hd j hj]
  simp [e32, hj]
def CompR (blk off cap : Nat) (l : List Nat) (w : World) (e : Ending) (w' : World) : Prop := e = .returned (.slice (some ⟨blk, off, none⟩) l.length cap) ∧ RowS w blk off l.toArray w'
def coI (d : Array Nat) (w : World) (v : Value) (wr : World) : Prop := ∃ k n : Nat, v = .int .i64 (k : Nat) ∧ 1 ≤ k ∧ k ≤ d.size ∧ (∀ i, 1 ≤ i → i < k → d[i]! ≠ d[i - 1]!) ∧ wr = w.drewN n
def coJ (d : Array Nat) (w : World) (blk off k : Nat) (v3 v5 : Value) (wr : World) : Prop :=
  ∃ (r q : Nat) (dk : Array Nat), v3 = .int .i64 (q : Nat) ∧ v5 = .int .i64 (r : Nat) ∧ 1 ≤ r ∧ k + r ≤ d.size ∧ q + 1 ≤ k + r ∧ dk.size = d.size ∧ q = (keptN (fun t => d[t]!) (k + r)).length ∧
    (∀ t, t < q → dk[t]! = (keptN (fun t => d[t]!) (k + r))[t]!) ∧ (∀ t, q ≤ t → dk[t]! = d[t]!) ∧ RowS w blk off dk wr
theorem comp32_any (blk off cap : Nat) (d : Array Nat) (w : World) (hH : Sort.Holds e32 w blk off d) (hcap : d.size ≤ cap) (hcm : cap ≤ 9223372036854775807) (hsz : d.size < 65536) :
    Calls Tryz.prog 128 #[.slice (some ⟨blk, off, none⟩) d.size cap] w (CompR blk off cap (keptN (fun t => d[t]!) d.size) w) := by
  have HH := Lib.hid hH
  clear hH
  by_cases h2 : d.size < 2
  · have h2z : decide ((d.size : Int) < 2) = true := decide_eq_true (by omega)
    have hk := keptN_all (fun t => d[t]!) d.size (fun i h1 h2 => by omega)
    have hkl : (keptN (fun t => d[t]!) d.size).length = d.size := by rw [hk]; simp
    have hkd : (keptN (fun t => d[t]!) d.size).toArray = d := by
      rw [hk]
      apply Array.ext
      · simp
      · intro i h1 h2
        simp
        rw [getElem!_pos d i h2]
    have HK := Lib.hid (And.intro hkl hkd)
    clear hk hkl hkd
    go_enter Tryz.func128, Tryz.ntmps128
    go_wp2
    go_ret
    exact ⟨by rw [HK.out.1]; rfl, by rw [HK.out.2]; exact ⟨HH.out, OnlyB.refl _ _⟩⟩
  · have h2z : decide ((d.size : Int) < 2) = false := decide_eq_false (by omega)
    go_enter Tryz.func128, Tryz.ntmps128
    go_wp2_with fail
    go_loopw [3] (fun v wr => coI d w v wr) (fun v _ => d.size - (intOf v).toNat)
    case atStart => exact ⟨1, 0, rfl, by omega, by omega, fun i h1 h2 => by omega, rfl⟩
    case round =>
      obtain ⟨k, n, rfl, hk1, hkn, hne, rfl⟩ := hrel
      have HN := Lib.hid hne
      clear hne
      by_cases hlt : k < d.size
      · have hltz : (k : Int) < (d.size : Int) := by omega
        obtain ⟨G, hG⟩ : ∃ G : Nat → Nat, ∀ t, G t = d[t]! := ⟨fun t => d[t]!, fun _ => rfl⟩
        have hcw : ∀ t, t < d.size → w.cell? ⟨blk, off + t, none⟩ = some (.int .u32 ((G t : Nat) : Int)) := fun t ht => by rw [hG]; exact (HH.out t ht).1
        have HG := Lib.hid hG
        clear hG
        by_cases heq : G k = G (k - 1)
        · have heqz : (((G k : Nat) : Int) == ((G (k - 1) : Nat) : Int)) = true := by simp [heq]
          have heq2 : d[k]! = d[k - 1]! := by rw [← HG.out, ← HG.out]; exact heq
          have HE2 := Lib.hid heq2
          clear heq heq2
          go_wp2_with fail
          go_quiet (fail)
          have hk0 : (0 : Int) ≤ (k : Int) := by omega
          have hkc : (k : Int) ≤ (cap : Int) := by omega
          have hkc2 : ¬ cap = k := by omega
          have hkc3 : ¬ k = cap := by omega
          obtain ⟨w2, hw2⟩ : ∃ w2, w2 = (w.drewN n).drewN nq := ⟨_, rfl⟩
          rw [← hw2]
          have HS2 := Lib.hid (show RowS w blk off d w2 by rw [hw2]; exact ⟨HH.out, ((OnlyB.refl _ _).drewN _).drewN _⟩)
          clear hw2 hcw HG
          go_wp2_with fail
          have hk0 := keptN_all (fun t => d[t]!) k HN.out
          have hk1' : keptN (fun t => d[t]!) (k + 1) = (List.range k).map (fun t => d[t]!) := by rw [keptN_no (by intro h; rcases h with h | h; omega; exact h HE2.out), hk0]
          have HK := Lib.hid hk1'
          clear hk0 hk1'
          go_loopw [3, 5] (fun v3 v5 wr => coJ d w blk off k v3 v5 wr) (fun _ v5 _ => d.size - (intOf v5).toNat)
          case atStart =>
            refine ⟨1, k, d, rfl, rfl, Nat.le_refl _, by omega, by omega, rfl, by rw [HK.out]; simp, fun t ht => ?_, fun t _ => rfl, HS2.out⟩
            rw [HK.out, rangeGet _ k t ht]
          case round =>
            clear HK HS2 HE2 HN
            obtain ⟨r, q, dk, rfl, rfl, hr1, hr2, hqr, hds, hq, hlo, hhi, hrs⟩ := hrel
            have HQ := Lib.hid hq
            have HLo := Lib.hid hlo
            have HHi := Lib.hid hhi
            have HRS := Lib.hid hrs
            clear hq hlo hhi hrs
            by_cases hrt : r < d.size - k
            · have hrz : decide (r < d.size - k) = true := decide_eq_true hrt
              obtain ⟨G, hG⟩ : ∃ G : Nat → Nat, ∀ t, G t = dk[t]! := ⟨fun t => dk[t]!, fun _ => rfl⟩
              have hcw : ∀ t, t < d.size → wr.cell? ⟨blk, off + t, none⟩ = some (.int .u32 ((G t : Nat) : Int)) := fun t ht => by rw [hG]; exact (HRS.out.1 t (by omega)).1
              have hfw : ∀ t, t < d.size → wr.frozen? ⟨blk, off + t, none⟩ = false := fun t ht => (HRS.out.1 t (by omega)).2
              have HG := Lib.hid hG
              clear hG
              have e1 : G (k + r) = d[k + r]! := by rw [HG.out]; exact HHi.out _ (by omega)
              have e2 : G (k + (r - 1)) = d[k + r - 1]! := by rw [HG.out, show k + (r - 1) = k + r - 1 by omega]; exact HHi.out _ (by omega)
              have HE := Lib.hid (And.intro e1 e2)
              clear e1 e2
              by_cases heq : G (k + r) = G (k + (r - 1))
              · have heqz : (((G (k + r) : Nat) : Int) != ((G (k + (r - 1)) : Nat) : Int)) = false := by simp [heq]
                have hkn2 : keptN (fun t => d[t]!) (k + r + 1) = keptN (fun t => d[t]!) (k + r) := keptN_no (by
                  intro h
                  rcases h with h | h
                  · omega
                  · exact h (by rw [← HE.out.1, ← HE.out.2]; exact heq))
                have HKN := Lib.hid hkn2
                clear hkn2 heq
                go_wp2_with fail
                go_quiet (fail)
                go_wp2_with fail
                go_roundw
                case rel => exact ⟨r + 1, q, dk, rfl, by go_num, by omega, by omega, by omega, hds, by rw [show k + (r + 1) = k + r + 1 by omega, HKN.out]; exact HQ.out, by rw [show k + (r + 1) = k + r + 1 by omega, HKN.out]; exact HLo.out, HHi.out, HRS.out.drewN _⟩
                case measure => simp [intOf]; omega
              · have heqz : (((G (k + r) : Nat) : Int) != ((G (k + (r - 1)) : Nat) : Int)) = true := by rw [bne_iff_ne]; omega
                have hkn2 : keptN (fun t => d[t]!) (k + r + 1) = keptN (fun t => d[t]!) (k + r) ++ [d[k + r]!] := keptN_yes (.inr (by
                  intro h
                  exact heq (by rw [HE.out.1, HE.out.2]; exact h)))
                have HKN := Lib.hid hkn2
                clear hkn2 heq
                go_wp2_with fail
                go_quiet (fail)
                go_wp2_with fail
                go_roundw
                case rel =>
                  rw [HE.out.1]
                  refine ⟨r + 1, q + 1, dk.setIfInBounds q d[k + r]!, by go_num, by go_num, by omega, by omega, by omega, by simpa using hds, by rw [show k + (r + 1) = k + r + 1 by omega, HKN.out, List.length_append, HQ.out]; rfl, fun t ht => ?_, fun t ht => ?_, (HRS.out.drewN nq).set (by omega) _⟩
                  · rw [show k + (r + 1) = k + r + 1 by omega, HKN.out]
                    rcases Nat.lt_or_ge t q with h | h
                    · rw [set_other _ _ _ _ (by omega), getB _ _ _ (by rw [← HQ.out]; exact h)]
                      exact HLo.out t h
                    · obtain rfl : t = q := by omega
                      rw [set_same _ _ _ (by omega)]
                      have := getLastB (keptN (fun t => d[t]!) (k + r)) d[k + r]!
                      rw [← HQ.out] at this
                      exact this.symm
                  · rw [set_other _ _ _ _ (by omega)]
                    exact HHi.out t (by omega)
                case measure => simp [intOf]; omega
            · have hrz : decide (r < d.size - k) = false := decide_eq_false hrt
              have hkr : k + r = d.size := by omega
              have hq := HQ.out
              have hlo := HLo.out
              rw [hkr] at hq hlo
              have HQ2 := Lib.hid hq
              have HL2 := Lib.hid hlo
              have hz0 : (zeroValue 24).run Tryz.prog = fun w => .ok (.int .u32 0) w := by funext w; kernel_rfl
              have hcl : ∀ ty, (Builtin.clear_ #[25] ty #[.slice (some ⟨blk, off + q, none⟩) (d.size - q) (cap - q)]).run Tryz.prog wr = .ok (.tuple #[]) (wr.setCells blk (off + q) (List.replicate (d.size - q) (.int .u32 0))) :=
                fun ty => Lib.run_clear_slice wr 25 24 ty _ Tryz.underlying25 (fun w => by rw [hz0]) rfl rfl blk (off + q) _ _ (by omega)
                  (fun j hj => by rw [show off + q + j = off + (q + j) by omega, (HRS.out.1 (q + j) (by omega)).1]; rfl) (fun j hj => by rw [show off + q + j = off + (q + j) by omega]; exact (HRS.out.1 (q + j) (by omega)).2)
              have hqc : (q : Int) ≤ (d.size : Int) := by omega
              have hq0 : (0 : Int) ≤ (q : Int) := by omega
              have hqc2 : ¬ cap = q := by omega
              have hqc3 : (q : Int) ≤ (cap : Int) := by omega
              clear hkr hq hlo hz0 HQ HLo
              go_wp2_with fail
              go_ret
              refine ⟨by rw [← HQ2.out]; rfl, ?_⟩
              exact HRS.out.clear q _ (by rw [← HQ2.out]; exact Nat.le_refl _) (by omega) (fun t ht => HL2.out t (by rw [HQ2.out]; exact ht)) _
        · have heqz : (((G k : Nat) : Int) == ((G (k - 1) : Nat) : Int)) = false := by rw [beq_eq_false_iff_ne]; omega
          have HE2 := Lib.hid (show d[k]! ≠ d[k - 1]! by rw [← HG.out, ← HG.out]; exact heq)
          clear heq
          go_wp2_with fail
          go_quiet (fail)
          go_wp2_with fail
          go_roundw
          case rel =>
            refine ⟨k + 1, _, by go_num, by omega, by omega, fun i h1 h2 => ?_, rfl⟩
            rcases Nat.lt_or_ge i k with h | h
            · exact HN.out i h1 h
            · rw [show i = k by omega]; exact HE2.out
          case measure => simp [intOf]; omega
      · obtain rfl : k = d.size := by omega
        have hk := keptN_all (fun t => d[t]!) d.size HN.out
        have hkl : (keptN (fun t => d[t]!) d.size).length = d.size := by rw [hk]; simp
        have hkd : (keptN (fun t => d[t]!) d.size).toArray = d := by
          rw [hk]
          apply Array.ext
          · simp
          · intro i h1 h2
            simp
            rw [getElem!_pos d i h2]
        have HK := Lib.hid (And.intro hkl hkd)
        clear hk hkl hkd
        go_wp2_with fail
        go_ret
        exact ⟨by rw [HK.out.1]; rfl, by rw [HK.out.2]; exact ⟨HH.out, (OnlyB.refl _ _).drewN _⟩⟩

/-! ### of nothing -/
end Go.Proofs.YtcklfffeimnfeaaGreat

namespace Go.Proofs.YtcklfffeimnfeaaGreat
open Go.RowKit

theorem numCs_at (jb jo : Nat) : ∀ (xs : List (Nat × Nat × Nat)) (k : Nat) (h : k < xs.length), (numCs jb jo xs)[k * 3]? = some (.pointer (some ⟨jb, jo + xs[k].1, none⟩)) ∧ (numCs jb jo xs)[k * 3 + 1]? = some (.int .u64 (xs[k].2.1 : Nat)) ∧ (numCs jb jo xs)[k * 3 + 2]? = some (.int .u64 (xs[k].2.2 : Nat))
  | x :: xs, 0, _ => ⟨rfl, rfl, rfl⟩
  | x :: xs, k + 1, h => by
    have ih := numCs_at jb jo xs k (by simpa using h)
    have e : numCs jb jo (x :: xs) = .pointer (some ⟨jb, jo + x.1, none⟩) :: .int .u64 (x.2.1 : Nat) :: .int .u64 (x.2.2 : Nat) :: numCs jb jo xs := rfl
    rw [e, show (k + 1) * 3 = k * 3 + 1 + 1 + 1 by omega]
    simpa using ih
theorem numTab_len : ∀ e ∈ numTab, e.2.length ≤ 2 := by decide
theorem numTab_small : ∀ e ∈ numTab, ∀ x ∈ e.2, x.1 < 15 ∧ x.1 ≠ 0 ∧ x.1 ≠ 1 ∧ x.1 ≠ 4 ∧ x.2.1 < 4294967296 ∧ x.2.2 < 4294967296 := by decide
theorem numTab_word : ∀ e ∈ numTab, ∀ e' ∈ numTab, e.1 = e'.1 → e = e' := by decide
theorem jobC_cell (j : JobD) (ao : Option Addr) (cap c : Nat) (h : c < 15) (h0 : c ≠ 0) (h1 : c ≠ 1) (h4 : c ≠ 4) : (jobCs j ao cap)[c]? = some (.int .u32 (jobC j c : Nat)) := by
  rcases c with _ | _ | _ | _ | _ | _ | _ | _ | _ | _ | _ | _ | _ | _ | _ | c <;> first | omega | rfl
theorem jobC_lt {j : JobD} (h : JobOk j) (c : Nat) : jobC j c < 4294967296 := by
  unfold jobC
  split <;> first | exact h.length | exact h.walks | exact h.stop | exact h.od | exact h.p | exact h.q | exact h.tries | exact h.best | exact h.bsh | exact h.bro | exact h.bpo | exact h.bso | omega
/-- an entry whose numbers are all in their bounds -/
def EntOk (j : JobD) (x : MapEntry) : Prop := ∃ e ∈ numTab, x.key = .string (bs e.1) ∧ e.2.all (fun x => inB (jobC j x.1) x.2.1 x.2.2) = true
theorem allNums_yes {j : JobD} {T : TypeId} {jb jo : Nat} {w : World} {mb : Nat} {es : List MapEntry} (h : NumsAt T jb jo w mb es) (ho : ∀ x ∈ es, EntOk j x) : allNums j = true := by
  refine List.all_eq_true.2 fun e he => ?_
  obtain ⟨x, hx, hk⟩ := h.all e he
  obtain ⟨e', he', hk', ha⟩ := ho x hx
  rw [hk] at hk'
  injection hk' with hk'
  have := numTab_word e he e' he' (bs_inj hk')
  subst this
  exact ha
theorem allNums_no {j : JobD} {e : List UInt8 × List (Nat × Nat × Nat)} (he : e ∈ numTab) {x : Nat × Nat × Nat} (hx : x ∈ e.2) (h : inB (jobC j x.1) x.2.1 x.2.2 = false) : allNums j = false := by
  cases ha : allNums j with
  | false => rfl
  | true =>
    have := List.all_eq_true.1 (List.all_eq_true.1 ha e he) x hx
    rw [h] at this; cases this

/-! ### a row sorted and struck of its twins -/
theorem keptN_lt (G : Nat → Nat) : ∀ r, (keptN G r).length = r → ∀ i, 1 ≤ i → i < r → G i ≠ G (i - 1)
  | 0, _, i, _, h => by omega
  | r + 1, h, i, h1, h2 => by
    have hl := keptN_le G r
    rw [keptN, List.length_append] at h
    split at h
    · rename_i hc
      rw [List.length_singleton] at h
      rcases Nat.lt_or_ge i r with h3 | h3
      · exact keptN_lt G r (by omega) i h1 h3
      · obtain rfl : i = r := by omega
        rcases hc with hc | hc
        · omega
        · exact hc
    · simp at h; omega
theorem nodup_kept {l : List Nat} {d : Array Nat} (hp : Sort.PermIn 0 l.length l.toArray d) (hs : Srt 0 l.length d) : (keptN (fun t => d[t]!) l.length).length = l.length ↔ l.Nodup := by
  obtain ⟨p1, _, p3⟩ := hp
  simp only [List.size_toArray] at p1
  have hperm : d.toList.Perm l := by
    have e1 : d.extract 0 l.length = d := by rw [← p1]; simp
    have e2 : l.toArray.extract 0 l.length = l.toArray := by
      have : l.toArray.size = l.length := by simp
      rw [← this]; exact Array.extract_size
    rw [e1, e2] at p3
    simpa using p3
  rw [← hperm.nodup_iff]
  have hg : ∀ i, (h : i < d.toList.length) → d[i]! = d.toList[i] := fun i h => by
    rw [getElem!_pos d i (by simpa using h)]; simp
  constructor
  · intro h
    have hne := keptN_lt _ _ h
    have hlt : ∀ i, ∀ j, i < j → j < l.length → d[i]! < d[j]! := by
      intro i j hij hj
      induction j with
      | zero => omega
      | succ j ih =>
        have h1 := hne (j + 1) (by omega) hj
        simp only [Nat.add_sub_cancel] at h1
        have h2 := hs j (j + 1) (Nat.zero_le _) (by omega) hj
        rcases Nat.lt_or_ge i j with h3 | h3
        · have := ih h3 (by omega); omega
        · obtain rfl : i = j := by omega
          omega
    refine List.pairwise_iff_getElem.2 fun i j hi hj hij => ?_
    have := hlt i j hij (by simpa [p1] using hj)
    rw [hg i hi, hg j hj] at this
    omega
  · intro h
    rw [keptN_all]
    · simp
    · intro i h1 h2 e
      have hi : i < d.toList.length := by simpa [p1] using h2
      have := List.pairwise_iff_getElem.1 h (i - 1) i (by omega) hi (by omega)
      apply this
      rw [← hg i hi, ← hg (i - 1) (by omega)]
      exact e.symm
theorem clone32_any (l : List Nat) (ao : Option Addr) (cap : Nat) (w : World) (h0 : 0 < l.length) (hl : l.length ≤ 1073741824) (hrd : Rd w ao l.length (u32s l)) :
    Calls Tryz.prog 126 #[.slice ao l.length cap] w (RetOwn 24 1 l.length (u32s l) w) := by
  have hE := u32sElem
  have hsrc : Src Tryz.prog 1 25 (.slice ao l.length cap) l.length (u32s l) (w.alloc (.cells #[] 24)) := (hrd.ext (ext_alloc w _)).src Tryz.underlying25 cap (u32s_one l)
  obtain ⟨b, off, rfl, hb, hc⟩ := hrd.pos h0
  have hnil : (binOp .eql 25 (.slice (some ⟨b, off, none⟩) l.length cap) (.slice none 0 0)).run Tryz.prog w = .ok (.bool false) w := Go.run_eql_slice_nil w _ _ _ _ _ Tryz.underlying25
  have Hsrc := Lib.hid hsrc
  clear hsrc hc hrd
  go_enter Tryz.func126, Tryz.ntmps126
  go_wp2_with (at_builtin; refine wpList_app rfl (.tmp 5) (.tmp 6) 25 25 rfl hE (Own.emptyAt w 24 1 w.heap.size rfl) rfl rfl Hsrc.out (by simp [maxLen]; omega) (by omega) ?_; intro ao4 cap4 g4 W4 ho4 hg4 hon4; obtain ⟨hG, hBB⟩ := app_blocks (w := w) (W := w.alloc (.cells #[] 24)) (fun k h => by cases h; exact Nat.le_refl _) (ext_alloc w _) hg4 hon4; have Ho4 := Lib.hid ho4; clear ho4 hg4 hon4)
  go_ret
  exact ⟨ao4, cap4, g4, by simp, by simpa using Ho4.out, hG, hBB⟩

/-! ### a range over a map, operation by operation -/
end Go.Proofs.YtcklfffeimnfeaaGreat
