/- Sorting a row of uint32 in place, last part: the walk of pdqsort, and slices.Sort. -/
import Derived.Test.YtggcmnjllkncaaaBdSort
import Derived.Test.YtggcmnjllkncaaaSort5
import Derived.Test.YtggcmnjllkncaaaSort6
namespace Go.Proofs.Ytggcmnjllkncaaa
set_option linter.unusedSimpArgs false
set_option linter.unusedVariables false
set_option maxRecDepth 100000
open Go.RowKit

def PdqR (a b : Nat) (d : Array Nat) (w : World) (blk off : Nat) (e : Ending) (w' : World) : Prop := e = .returned (.tuple #[]) ∧ ∃ d', Sort.PermIn a b d d' ∧ Srt a b d' ∧ RowS w blk off d' w'
def pdqI (a b lim : Nat) (d : Array Nat) (w : World) (blk off : Nat) (k : Nat) (v1 v2 v3 v8 v9 : Value) (wr : World) : Prop :=
  ∃ (a' b' l' : Nat) (wb wp : Bool) (dk : Array Nat), v1 = .int .i64 (a' : Nat) ∧ v2 = .int .i64 (b' : Nat) ∧ v3 = .int .i64 (l' : Nat) ∧ v8 = .bool wb ∧ v9 = .bool wp ∧ b' - a' ≤ k ∧ k ≤ b - a ∧ l' ≤ lim ∧ PdqInv a b d a' b' dk ∧ RowS w blk off dk wr
def pdqC1 (a b lim : Nat) (d : Array Nat) (w : World) (blk off a' b' : Nat) (v3 : Value) (wr : World) : Prop :=
  ∃ (l' : Nat) (dk : Array Nat), v3 = .int .i64 (l' : Nat) ∧ l' ≤ lim ∧ PdqInv a b d a' b' dk ∧ RowS w blk off dk wr
def pdqC2 (a b : Nat) (d : Array Nat) (w : World) (blk off a' b' : Nat) (v11 v12 : Value) (wr : World) : Prop :=
  ∃ (p h : Nat) (dk : Array Nat), v11 = .int .i64 (p : Nat) ∧ v12 = .int .i64 (h : Nat) ∧ a' ≤ p ∧ p < b' ∧ PdqInv a b d a' b' dk ∧ RowS w blk off dk wr
def pdqC3 (a b : Nat) (d : Array Nat) (w : World) (blk off a' b' : Nat) (v11 : Value) (wr : World) : Prop :=
  ∃ (p : Nat) (dk : Array Nat), v11 = .int .i64 (p : Nat) ∧ a' ≤ p ∧ p < b' ∧ PdqInv a b d a' b' dk ∧ RowS w blk off dk wr
def pdqB (w : World) (v : Value) (wr : World) : Prop := ∃ t : Bool, v = .bool t ∧ w = wr
set_option maxHeartbeats 6400000 in
set_option maxRecDepth 100000 in
theorem pdq32_any (blk off cap : Nat) : ∀ (N a b lim : Nat) (d : Array Nat) (w : World), b - a = N → Sort.Holds e32 w blk off d → blk < w.heap.size → a ≤ b → b ≤ d.size → d.size < 65536 → lim < 65536 → LowB a b d →
    Calls Try.prog 32 #[.slice (some ⟨blk, off, none⟩) d.size cap, .int .i64 a, .int .i64 b, .int .i64 lim] w (PdqR a b d w blk off) := by
  intro N
  induction N using Nat.strongRecOn with
  | ind N IH =>
    intro a b lim d w hN hH hblk hab hb hsz hlim hlow
    have HIH := Lib.hid IH
    have HH := Lib.hid hH
    have hN2 : b - a ≤ N := by omega
    have HI0 := Lib.hid (PdqInv.start hab hlow)
    clear IH hH hlow hN
    go_enter Try.func32, Try.ntmps32
    go_wp2_with fail
    go_loopg [1, 2, 3, 8, 9] (b - a) (fun k v1 v2 v3 v8 v9 wr => pdqI a b lim d w blk off k v1 v2 v3 v8 v9 wr)
    case atStart => exact ⟨a, b, lim, true, true, d, rfl, rfl, rfl, rfl, rfl, Nat.le_refl _, Nat.le_refl _, Nat.le_refl _, HI0.out, HH.out, OnlyB.refl _ _⟩
    case round =>
      clear HI0
      obtain ⟨a', b', l', wb, wp, dk, rfl, rfl, rfl, rfl, rfl, hk, hkN, hl, hinv, hrs⟩ := hrel
      have i1 := hinv.lo
      have i2 := hinv.mid
      have i3 := hinv.hi
      have i4 := hinv.size
      have HI := Lib.hid hinv
      have HR := Lib.hid hrs
      have hz : blk < wr.heap.size := Nat.lt_of_lt_of_le hblk hrs.2.size
      clear hinv hrs
      by_cases h12 : b' - a' ≤ 12
      · have h12z : decide ((b' : Int) - (a' : Int) ≤ 12) = true := decide_eq_true (by omega)
        have hcall := ins32_any blk off cap a' b' dk wr HR.out.1 i2 (by omega) (by omega)
        rw [i4] at hcall
        have HC := Lib.hid hcall
        clear hcall
        go_wp2_with fail
        refine HC.out.mono ?_
        rintro e w1 ⟨rfl, n, rfl⟩
        go_wp2_with fail
        have hq := Sort.insertionSort_holds ltN_swo dk a' b' i2 (by omega)
        have hd := HI.out.done hq.1 hq.2
        (try simp only [Exit.inBlock, Exit.then])
        refine bodyPost_ret (results_none rfl _ _ _) rfl ?_
        exact ⟨rfl, _, hd.1, hd.2, HR.out.trans (rowW_rowS HR.out.1 hq.1.1)⟩
      · have h12z : decide ((b' : Int) - (a' : Int) ≤ 12) = false := decide_eq_false (by omega)
        by_cases hl0 : l' = 0
        · subst hl0
          have hcall := heap32_any blk off cap a' b' dk wr HR.out.1 i2 (by omega) (by omega)
          rw [i4] at hcall
          have HC := Lib.hid hcall
          clear hcall
          go_wp2_with fail
          refine HC.out.mono ?_
          rintro e w1 ⟨rfl, n, rfl⟩
          go_wp2_with fail
          have hq := Sort.heapSort_holds ltN_swo dk a' b' i2 (by omega)
          have hd := HI.out.done hq.1 hq.2
          (try simp only [Exit.inBlock, Exit.then])
          refine bodyPost_ret (results_none rfl _ _ _) rfl ?_
          exact ⟨rfl, _, hd.1, hd.2, HR.out.trans (rowW_rowS HR.out.1 hq.1.1)⟩
        · have hl0z : ((l' : Int) == 0) = false := by rw [beq_eq_false_iff_ne]; omega
          go_upto_if 35 with fail
          go_cut [3] (fun v wc => pdqC1 a b lim d w blk off a' b' v wc)
          case first =>
            cases wb
            · have hcall := brk32_any blk off cap a' b' dk wr HR.out.1 hz i2 (by omega) (by omega)
              rw [i4] at hcall
              have HC := Lib.hid hcall
              clear hcall
              go_wp2_with fail
              refine HC.out.mono ?_
              rintro e w1 ⟨rfl, d1, hp1, hr1⟩
              have HP1 := Lib.hid (And.intro hp1 hr1)
              clear hp1 hr1
              go_wp2_with fail
              go_meet
              exact ⟨l' - 1, d1, by congr 1; omega, by omega, HI.out.perm hb HP1.out.1, HR.out.trans HP1.out.2⟩
            · go_wp2_with fail
              go_meet
              exact ⟨l', dk, rfl, hl, HI.out, HR.out⟩
          case rest =>
            clear HR HI hz i4 dk
            obtain ⟨l2, dk, rfl, hl2, hinv, hrs⟩ := hcut
            have i4 := hinv.size
            have HI := Lib.hid hinv
            have HR := Lib.hid hrs
            have hz : blk < wc.heap.size := Nat.lt_of_lt_of_le hblk hrs.2.size
            clear hinv hrs
            have hcall := piv32_any blk off cap a' b' dk wc HR.out.1 hz (by omega) (by omega) (by omega)
            rw [i4] at hcall
            have HC := Lib.hid hcall
            clear hcall
            go_wp2_with fail
            refine HC.out.mono ?_
            clear HC
            rintro e w1 ⟨p, h, rfl, hp1, hp2, hh, ho⟩
            have HR1 := Lib.hid (show RowS w blk off dk w1 from ⟨ho.holds HR.out.1 hz (by simp), HR.out.2.trans ho (fun _ _ e => e.elim)⟩)
            have hz1 : blk < w1.heap.size := Nat.lt_of_lt_of_le hz ho.size
            clear HR hz ho
            go_upto_if 50 with fail
            go_cut [11, 12] (fun v11 v12 wc => pdqC2 a b d w blk off a' b' v11 v12 wc)
            case first =>
              by_cases h2 : h = 2
              · subst h2
                have hcall := rev32_any blk off cap a' b' dk w1 HR1.out.1 i2 (by omega) (by omega)
                rw [i4] at hcall
                have HC := Lib.hid hcall
                clear hcall
                go_wp2_with fail
                refine HC.out.mono ?_
                rintro e w2 ⟨rfl, n, rfl⟩
                have hq := Sort.reverseRange_holds dk a' b' i2 (by omega)
                have HQ := Lib.hid hq
                clear hq
                go_wp2_with fail
                go_meet
                exact ⟨(b' - 1) - (p - a'), 1, _, by congr 1; omega, rfl, by omega, by omega, HI.out.perm hb HQ.out, HR1.out.trans (rowW_rowS HR1.out.1 HQ.out.1)⟩
              · have h2z : ((h : Int) == 2) = false := by rw [beq_eq_false_iff_ne]; omega
                go_wp2_with fail
                go_meet
                exact ⟨p, h, dk, rfl, rfl, hp1, hp2, HI.out, HR1.out⟩
            case rest =>
              clear HR1 HI hz1 i4 hp1 hp2 hh dk
              obtain ⟨p2, h2, dk, rfl, rfl, hp1, hp2, hinv, hrs⟩ := hcut
              have i4 := hinv.size
              have HI := Lib.hid hinv
              have HR := Lib.hid hrs
              have hz : blk < wc.heap.size := Nat.lt_of_lt_of_le hblk hrs.2.size
              clear hinv hrs
              go_upto_region 15 with fail
              go_cut [68] (fun v wd => pdqB wc v wd)
              case first =>
                cases wb
                · go_wp2_with fail
                  go_meet
                  exact ⟨_, rfl, rfl⟩
                · cases wp
                  · go_wp2_with fail
                    go_meet
                    exact ⟨_, rfl, rfl⟩
                  · go_wp2_with fail
                    go_meet
                    exact ⟨_, rfl, rfl⟩
              case rest =>
                obtain ⟨t, rfl, rfl⟩ := hcut
                go_upto_if 68 with fail
                go_cut [11] (fun v11 wd => pdqC3 a b d w blk off a' b' v11 wd)
                case first =>
                  cases t
                  · go_wp2_with fail
                    go_meet
                    exact ⟨p2, dk, rfl, hp1, hp2, HI.out, HR.out⟩
                  · have hcall := pins32_any blk off cap a' b' dk wc HR.out.1 (by omega) (by omega) (by omega)
                    have hq := Sort.partialInsertionSort_holds ltN_swo dk a' b' (by omega) (by omega) (low_of HI.out.low)
                    rw [i4] at hcall
                    obtain ⟨⟨d1, q⟩, hx⟩ : ∃ x, Sort.partialInsertionSort ltN dk a' b' = x := ⟨_, rfl⟩
                    rw [hx] at hcall hq
                    simp only at hcall hq
                    have HC := Lib.hid hcall
                    have HQ := Lib.hid hq
                    clear hcall hq hx
                    go_wp2_with fail
                    refine HC.out.mono ?_
                    clear HC
                    rintro e w2 ⟨rfl, n, rfl⟩
                    cases q
                    · go_wp2_with fail
                      go_meet
                      exact ⟨p2, d1, rfl, hp1, hp2, HI.out.perm hb HQ.out.1, HR.out.trans (rowW_rowS HR.out.1 HQ.out.1.1)⟩
                    · go_wp2_with fail
                      have hd := HI.out.done HQ.out.1 (HQ.out.2 (by simp))
                      (try simp only [Exit.inBlock, Exit.then])
                      refine bodyPost_ret (results_none rfl _ _ _) rfl ?_
                      exact ⟨rfl, _, hd.1, hd.2, HR.out.trans (rowW_rowS HR.out.1 HQ.out.1.1)⟩
                case rest =>
                  clear HR HI hz i4 hp1 hp2 dk
                  obtain ⟨p3, dk, rfl, hp1, hp2, hinv, hrs⟩ := hcut
                  have i4 := hinv.size
                  have HI := Lib.hid hinv
                  have HR := Lib.hid hrs
                  have hz : blk < wc.heap.size := Nat.lt_of_lt_of_le hblk hrs.2.size
                  clear hinv hrs
                  obtain ⟨G, hG⟩ : ∃ G : Nat → Nat, ∀ t, G t = dk[t]! := ⟨fun t => dk[t]!, fun _ => rfl⟩
                  have hcw : ∀ t, t < d.size → wc.cell? ⟨blk, off + t, none⟩ = some (.int .u32 ((G t : Nat) : Int)) := fun t ht => by rw [hG]; exact (HR.out.1 t (by omega)).1
                  have HG := Lib.hid hG
                  clear hG
                  by_cases h0 : 0 < a'
                  · have h0z : decide ((0 : Int) < (a' : Int)) = true := decide_eq_true (by omega)
                    have h0y : decide (0 < a') = true := decide_eq_true h0
                    go_wp2_with fail
                    go_quiet ((go_at_call 51; exact Calls.quiet_of_same (less32_any _ _ _)))
                    obtain ⟨L, hL⟩ : ∃ L, L = !ltN (G (a' - 1)) (G p3) := ⟨_, rfl⟩
                    rw [← hL]
                    rw [HG.out, HG.out] at hL
                    have HL := Lib.hid hL
                    have HR3 := Lib.hid (show RowS w blk off dk (wc.drewN nq) from ⟨HR.out.1, HR.out.2.drewN _⟩)
                    generalize wc.drewN nq = w5 at HR3 ⊢
                    clear hL hcw HG HR hz wc
                    have HR := Lib.hid HR3.out
                    clear HR3
                    cases L
                    · have hcall := part32_any blk off cap a' b' p3 dk w5 HR.out.1 hp1 hp2 (by omega) (by omega)
                      rw [i4] at hcall
                      obtain ⟨⟨m, ap, d4⟩, hx⟩ : ∃ x, Sort.partition ltN dk a' b' p3 = x := ⟨_, rfl⟩
                      obtain ⟨m1, m2, m3, m4, m5, m6, m7⟩ := HI.out.left hb hp1 hp2 hx
                      rw [hx] at hcall
                      simp only at hcall
                      have HC := Lib.hid hcall
                      have HM4 := Lib.hid m4
                      have HM5 := Lib.hid m5
                      have HM6 := Lib.hid m6
                      have HM7 := Lib.hid m7
                      have hq4 : d4.size = dk.size := by rw [m3, i4]
                      clear hcall hx m4 m5 m6 m7 HI
                      go_wp2_with fail
                      refine HC.out.mono ?_
                      clear HC
                      rintro e w2 ⟨rfl, n, hw2⟩
                      have HR2 := Lib.hid (show RowS w blk off d4 w2 by rw [hw2]; exact HR.out.trans (rowW_rowS HR.out.1 hq4))
                      clear HR hw2 hq4
                      have hz2 : blk < w2.heap.size := Nat.lt_of_lt_of_le hblk HR2.out.2.size
                      by_cases hlr : m - a' < b' - m
                      · have hlz : decide ((m : Int) - (a' : Int) < (b' : Int) - (m : Int)) = true := decide_eq_true (by omega)
                        have hrec := HIH.out (m - a') (by omega) a' m l2 d4 w2 rfl HR2.out.1 hz2 m1 (by omega) (by omega) (by omega) HM4.out
                        rw [m3] at hrec
                        have HC := Lib.hid hrec
                        clear hrec
                        go_wp2_with fail
                        refine HC.out.mono ?_
                        clear HC
                        rintro e w3 ⟨rfl, d5, hp5, hs5, hr5⟩
                        have HN5 := Lib.hid (HM6.out d5 hp5 hs5)
                        have HR5 := Lib.hid (HR2.out.trans hr5)
                        clear hp5 hs5 hr5
                        go_wp2_with fail
                        go_roundg (b' - (m + 1))
                        case measure => omega
                        case rel => exact ⟨m + 1, b', l2, _, ap, d5, by go_num, rfl, rfl, rfl, rfl, Nat.le_refl _, by omega, hl2, HN5.out, HR5.out⟩
                      · have hlz : decide ((m : Int) - (a' : Int) < (b' : Int) - (m : Int)) = false := decide_eq_false (by omega)
                        have hrec := HIH.out (b' - (m + 1)) (by omega) (m + 1) b' l2 d4 w2 rfl HR2.out.1 hz2 (by omega) (by omega) (by omega) (by omega) HM5.out
                        rw [m3] at hrec
                        have HC := Lib.hid hrec
                        clear hrec
                        go_wp2_with fail
                        rw [show ((m : Int) + 1) = ((m + 1 : Nat) : Int) by omega]
                        refine HC.out.mono ?_
                        clear HC
                        rintro e w3 ⟨rfl, d5, hp5, hs5, hr5⟩
                        have HN5 := Lib.hid (HM7.out d5 hp5 hs5)
                        have HR5 := Lib.hid (HR2.out.trans hr5)
                        clear hp5 hs5 hr5
                        go_wp2_with fail
                        go_roundg (m - a')
                        case measure => omega
                        case rel => exact ⟨a', m, l2, _, ap, d5, rfl, rfl, rfl, rfl, rfl, Nat.le_refl _, by omega, hl2, HN5.out, HR5.out⟩
                    · have hcall := peq32_any blk off cap a' b' p3 dk w5 HR.out.1 hp1 hp2 (by omega) (by omega)
                      rw [i4] at hcall
                      obtain ⟨⟨m, d4⟩, hx⟩ : ∃ x, Sort.partitionEqual ltN dk a' b' p3 = x := ⟨_, rfl⟩
                      have hl := HI.out.eq hb hp1 hp2 h0 (by have := HL.out; rw [eq_comm, Bool.not_eq_true'] at this; exact this) hx
                      rw [hx] at hcall
                      simp only at hcall
                      have HC := Lib.hid hcall
                      have HE := Lib.hid hl.2
                      have hm1 := hl.1
                      have hm2 := hl.2.mid
                      have hq4 : d4.size = dk.size := by rw [hl.2.size, i4]
                      clear hcall hl hx
                      go_wp2_with fail
                      refine HC.out.mono ?_
                      clear HC
                      rintro e w2 ⟨rfl, n, hw2⟩
                      have HR2 := Lib.hid (show RowS w blk off d4 w2 by rw [hw2]; exact HR.out.trans (rowW_rowS HR.out.1 hq4))
                      clear hw2 hq4
                      go_wp2_with fail
                      go_roundg (b' - m)
                      case measure => omega
                      case rel => exact ⟨m, b', l2, wb, wp, d4, rfl, rfl, rfl, rfl, rfl, Nat.le_refl _, by omega, hl2, HE.out, HR2.out⟩
                  · have h0z : decide ((0 : Int) < (a' : Int)) = false := decide_eq_false (by omega)
                    have h0y : decide (0 < a') = false := decide_eq_false h0
                    go_wp2_with fail
                    go_quiet (fail)
                    have HR3 := Lib.hid (show RowS w blk off dk (wc.drewN nq) from ⟨HR.out.1, HR.out.2.drewN _⟩)
                    generalize wc.drewN nq = w5 at HR3 ⊢
                    clear hcw HG HR hz wc
                    have HR := Lib.hid HR3.out
                    clear HR3
                    have hcall := part32_any blk off cap a' b' p3 dk w5 HR.out.1 hp1 hp2 (by omega) (by omega)
                    rw [i4] at hcall
                    obtain ⟨⟨m, ap, d4⟩, hx⟩ : ∃ x, Sort.partition ltN dk a' b' p3 = x := ⟨_, rfl⟩
                    obtain ⟨m1, m2, m3, m4, m5, m6, m7⟩ := HI.out.left hb hp1 hp2 hx
                    rw [hx] at hcall
                    simp only at hcall
                    have HC := Lib.hid hcall
                    have HM4 := Lib.hid m4
                    have HM5 := Lib.hid m5
                    have HM6 := Lib.hid m6
                    have HM7 := Lib.hid m7
                    have hq4 : d4.size = dk.size := by rw [m3, i4]
                    clear hcall hx m4 m5 m6 m7 HI
                    go_wp2_with fail
                    refine HC.out.mono ?_
                    clear HC
                    rintro e w2 ⟨rfl, n, hw2⟩
                    have HR2 := Lib.hid (show RowS w blk off d4 w2 by rw [hw2]; exact HR.out.trans (rowW_rowS HR.out.1 hq4))
                    clear HR hw2 hq4
                    have hz2 : blk < w2.heap.size := Nat.lt_of_lt_of_le hblk HR2.out.2.size
                    by_cases hlr : m - a' < b' - m
                    · have hlz : decide ((m : Int) - (a' : Int) < (b' : Int) - (m : Int)) = true := decide_eq_true (by omega)
                      have hrec := HIH.out (m - a') (by omega) a' m l2 d4 w2 rfl HR2.out.1 hz2 m1 (by omega) (by omega) (by omega) HM4.out
                      rw [m3] at hrec
                      have HC := Lib.hid hrec
                      clear hrec
                      go_wp2_with fail
                      refine HC.out.mono ?_
                      clear HC
                      rintro e w3 ⟨rfl, d5, hp5, hs5, hr5⟩
                      have HN5 := Lib.hid (HM6.out d5 hp5 hs5)
                      have HR5 := Lib.hid (HR2.out.trans hr5)
                      clear hp5 hs5 hr5
                      go_wp2_with fail
                      go_roundg (b' - (m + 1))
                      case measure => omega
                      case rel => exact ⟨m + 1, b', l2, _, ap, d5, by go_num, rfl, rfl, rfl, rfl, Nat.le_refl _, by omega, hl2, HN5.out, HR5.out⟩
                    · have hlz : decide ((m : Int) - (a' : Int) < (b' : Int) - (m : Int)) = false := decide_eq_false (by omega)
                      have hrec := HIH.out (b' - (m + 1)) (by omega) (m + 1) b' l2 d4 w2 rfl HR2.out.1 hz2 (by omega) (by omega) (by omega) (by omega) HM5.out
                      rw [m3] at hrec
                      have HC := Lib.hid hrec
                      clear hrec
                      go_wp2_with fail
                      rw [show ((m : Int) + 1) = ((m + 1 : Nat) : Int) by omega]
                      refine HC.out.mono ?_
                      clear HC
                      rintro e w3 ⟨rfl, d5, hp5, hs5, hr5⟩
                      have HN5 := Lib.hid (HM7.out d5 hp5 hs5)
                      have HR5 := Lib.hid (HR2.out.trans hr5)
                      clear hp5 hs5 hr5
                      go_wp2_with fail
                      go_roundg (m - a')
                      case measure => omega
                      case rel => exact ⟨a', m, l2, _, ap, d5, rfl, rfl, rfl, rfl, rfl, Nat.le_refl _, by omega, hl2, HN5.out, HR5.out⟩

/-- slices.Sort: rising, the same numbers; else nothing that was there has turned. -/
theorem sort32_any (blk off cap : Nat) (d : Array Nat) (w : World) (hH : Sort.Holds e32 w blk off d) (hblk : blk < w.heap.size) (hsz : d.size < 65536) :
    Calls Try.prog 24 #[.slice (some ⟨blk, off, none⟩) d.size cap] w (PdqR 0 d.size d w blk off) := by
  have h8 := Lib.bitLen_le d.size 16 (by omega) (by omega)
  have hw : IntKind.u64.wrap (d.size : Int) = (d.size : Int) := by simp [IntKind.wrap, IntKind.bits, IntKind.signed]; omega
  have HL := Lib.hid (fun W => len_any d.size hsz W)
  have HP := Lib.hid (pdq32_any blk off cap d.size 0 d.size (Lib.bitLen d.size) d w (by omega) hH hblk (Nat.zero_le _) (Nat.le_refl _) hsz (by omega) (.inl rfl))
  clear hH
  go_enter Try.func24, Try.ntmps24
  go_wp2_with (first
    | (go_at_call 31; refine (HL.out _).mono ?_; rintro e w' ⟨rfl, rfl⟩)
    | (go_at_call 32; refine HP.out.mono ?_; rintro e w' ⟨rfl, hx⟩; have HX := Lib.hid hx; clear hx))
  go_end0
  exact ⟨rfl, HX.out⟩
end Go.Proofs.Ytggcmnjllkncaaa
