/- slices.Compact of a row of uint32; slices.Sort of nothing. -/
import Derived.Test.YtlgnpogmgpgdaaaSort7
import Derived.Lib.SliceRun
import Derived.Deep.Upon
import Derived.LoopN
namespace Go.Proofs.Ytlgnpogmgpgdaaa
set_option linter.unusedSimpArgs false
set_option linter.unusedVariables false
set_option maxRecDepth 100000
open Go.RowKit

/-- of numbers, those that differ from the one ahead -/
def keptN (G : Nat → Nat) : Nat → List Nat
  | 0 => []
  | r + 1 => keptN G r ++ (if r = 0 ∨ G r ≠ G (r - 1) then [G r] else [])
theorem keptN_yes {G : Nat → Nat} {r : Nat} (h : r = 0 ∨ G r ≠ G (r - 1)) : keptN G (r + 1) = keptN G r ++ [G r] := by rw [keptN, if_pos h]
theorem keptN_no {G : Nat → Nat} {r : Nat} (h : ¬ (r = 0 ∨ G r ≠ G (r - 1))) : keptN G (r + 1) = keptN G r := by rw [keptN, if_neg h, List.append_nil]
theorem keptN_le (G : Nat → Nat) : ∀ r, (keptN G r).length ≤ r
  | 0 => by simp [keptN]
  | r + 1 => by
    have := keptN_le G r
    rw [keptN, List.length_append]
    split <;> simp <;> omega
theorem keptN_all (G : Nat → Nat) : ∀ k, (∀ i, 1 ≤ i → i < k → G i ≠ G (i - 1)) → keptN G k = (List.range k).map G
  | 0, _ => rfl
  | k + 1, h => by
    rw [keptN_yes, keptN_all G k (fun i h1 h2 => h i h1 (by omega)), List.range_succ, List.map_append]
    · rfl
    · rcases Nat.eq_zero_or_pos k with h0 | h0
      · exact .inl h0
      · exact .inr (h k h0 (by omega))
theorem rangeGet (G : Nat → Nat) (k t : Nat) (h : t < k) : ((List.range k).map G)[t]! = G t := by
  rw [getElem!_pos _ t (by simpa using h)]
  simp
theorem getB (l : List Nat) (x : Nat) (t : Nat) (h : t < l.length) : (l ++ [x])[t]! = l[t]! := by
  rw [getElem!_pos _ t (by simp; omega), getElem!_pos l t h, List.getElem_append_left h]
theorem getLastB (l : List Nat) (x : Nat) : (l ++ [x])[l.length]! = x := by
  rw [getElem!_pos _ _ (by simp)]
  simp
theorem set_same (d : Array Nat) (i x : Nat) (hi : i < d.size) : (d.setIfInBounds i x)[i]! = x := Sort.getElem!_set_same d i x hi
theorem set_other (d : Array Nat) (i k x : Nat) (h : k ≠ i) : (d.setIfInBounds i x)[k]! = d[k]! := Sort.getElem!_set_other d i k x h
theorem RowS.set {w wr : World} {blk off : Nat} {d : Array Nat} (h : RowS w blk off d wr) {i : Nat} (hi : i < d.size) (x : Nat) : RowS w blk off (d.setIfInBounds i x) (wr.setCell ⟨blk, off + i, none⟩ (.int .u32 (x : Nat))) := by
  have e := Sort.putRow_set e32 wr blk off d i x hi
  rw [Sort.putRow_self e32 wr blk off d h.1] at e
  refine ⟨?_, h.2.setCell (p := ⟨blk, off + i, none⟩) (fun _ => rfl) _⟩
  rw [e]
  exact Sort.holds_putRow e32 wr blk off d _ h.1 (by simp)
theorem RowS.drewN {w wr : World} {blk off : Nat} {d : Array Nat} (h : RowS w blk off d wr) (n : Nat) : RowS w blk off d (wr.drewN n) := ⟨h.1, h.2.drewN n⟩
theorem OnlyB.setCells (b : Nat) : ∀ (vs : List Value) (o : Nat) (w : World), OnlyB (fun k => k = b) w (w.setCells b o vs)
  | [], _, w => OnlyB.refl _ _
  | v :: r, o, w => ((OnlyB.refl (fun k => k = b) w).setCell (p := ⟨b, o, none⟩) (fun _ => rfl) v).trans (OnlyB.setCells b r (o + 1) _) (fun _ _ h => h)
theorem RowS.clear {w wr : World} {blk off : Nat} {d : Array Nat} (h : RowS w blk off d wr) (q : Nat) (l : List Nat) (hl : l.length ≤ q) (hq : q ≤ d.size) (hd : ∀ t, t < l.length → d[t]! = l[t]!) (vs : List Value) :
    RowS w blk off l.toArray (wr.setCells blk (off + q) vs) := by
  refine ⟨fun j hj => ?_, h.2.trans (OnlyB.setCells _ _ _ _) (fun _ _ e => e)⟩
  simp only [List.size_toArray] at hj
  have h1 := h.1 j (by omega)
  rw [World.cell?_setCells_out blk vs _ wr _ (fun _ _ => .inl (by show off + j < off + q; omega)), World.frozen?_setCells]
  refine ⟨?_, h1.2⟩
  rw [h1.1, hd j hj]
  simp [e32, hj]
def CompR (blk off cap : Nat) (l : List Nat) (w : World) (e : Ending) (w' : World) : Prop := e = .returned (.slice (some ⟨blk, off, none⟩) l.length cap) ∧ RowS w blk off l.toArray w'
def coI (d : Array Nat) (w : World) (v : Value) (wr : World) : Prop := ∃ k n : Nat, v = .int .i64 (k : Nat) ∧ 1 ≤ k ∧ k ≤ d.size ∧ (∀ i, 1 ≤ i → i < k → d[i]! ≠ d[i - 1]!) ∧ wr = w.drewN n
def coJ (d : Array Nat) (w : World) (blk off k : Nat) (v3 v5 : Value) (wr : World) : Prop :=
  ∃ (r q : Nat) (dk : Array Nat), v3 = .int .i64 (q : Nat) ∧ v5 = .int .i64 (r : Nat) ∧ 1 ≤ r ∧ k + r ≤ d.size ∧ q + 1 ≤ k + r ∧ dk.size = d.size ∧ q = (keptN (fun t => d[t]!) (k + r)).length ∧
    (∀ t, t < q → dk[t]! = (keptN (fun t => d[t]!) (k + r))[t]!) ∧ (∀ t, q ≤ t → dk[t]! = d[t]!) ∧ RowS w blk off dk wr
set_option maxHeartbeats 3200000 in
set_option maxRecDepth 100000 in
theorem comp32_any (blk off cap : Nat) (d : Array Nat) (w : World) (hH : Sort.Holds e32 w blk off d) (hcap : d.size ≤ cap) (hcm : cap ≤ 9223372036854775807) (hsz : d.size < 65536) :
    Calls Try.prog 72 #[.slice (some ⟨blk, off, none⟩) d.size cap] w (CompR blk off cap (keptN (fun t => d[t]!) d.size) w) := by
  have HH := Lib.hid hH
  clear hH
  by_cases h2 : d.size < 2
  · have h2z : decide ((d.size : Int) < 2) = true := decide_eq_true (by omega)
    have hk := keptN_all (fun t => d[t]!) d.size (fun i h1 h2 => by omega)
    have hkl : (keptN (fun t => d[t]!) d.size).length = d.size := by rw [hk]; simp
    have hkd : (keptN (fun t => d[t]!) d.size).toArray = d := by
      rw [hk]
      apply Array.ext
      · simp
      · intro i h1 h2
        simp
        rw [getElem!_pos d i h2]
    have HK := Lib.hid (And.intro hkl hkd)
    clear hk hkl hkd
    go_enter Try.func72, Try.ntmps72
    go_wp2
    go_ret
    exact ⟨by rw [HK.out.1]; rfl, by rw [HK.out.2]; exact ⟨HH.out, OnlyB.refl _ _⟩⟩
  · have h2z : decide ((d.size : Int) < 2) = false := decide_eq_false (by omega)
    go_enter Try.func72, Try.ntmps72
    go_wp2_with fail
    go_loopw [3] (fun v wr => coI d w v wr) (fun v _ => d.size - (intOf v).toNat)
    case atStart => exact ⟨1, 0, rfl, by omega, by omega, fun i h1 h2 => by omega, rfl⟩
    case round =>
      obtain ⟨k, n, rfl, hk1, hkn, hne, rfl⟩ := hrel
      have HN := Lib.hid hne
      clear hne
      by_cases hlt : k < d.size
      · have hltz : (k : Int) < (d.size : Int) := by omega
        obtain ⟨G, hG⟩ : ∃ G : Nat → Nat, ∀ t, G t = d[t]! := ⟨fun t => d[t]!, fun _ => rfl⟩
        have hcw : ∀ t, t < d.size → w.cell? ⟨blk, off + t, none⟩ = some (.int .u32 ((G t : Nat) : Int)) := fun t ht => by rw [hG]; exact (HH.out t ht).1
        have HG := Lib.hid hG
        clear hG
        by_cases heq : G k = G (k - 1)
        · have heqz : (((G k : Nat) : Int) == ((G (k - 1) : Nat) : Int)) = true := by simp [heq]
          have heq2 : d[k]! = d[k - 1]! := by rw [← HG.out, ← HG.out]; exact heq
          have HE2 := Lib.hid heq2
          clear heq heq2
          go_wp2_with fail
          go_quiet (fail)
          have hk0 : (0 : Int) ≤ (k : Int) := by omega
          have hkc : (k : Int) ≤ (cap : Int) := by omega
          have hkc2 : ¬ cap = k := by omega
          have hkc3 : ¬ k = cap := by omega
          obtain ⟨w2, hw2⟩ : ∃ w2, w2 = (w.drewN n).drewN nq := ⟨_, rfl⟩
          rw [← hw2]
          have HS2 := Lib.hid (show RowS w blk off d w2 by rw [hw2]; exact ⟨HH.out, ((OnlyB.refl _ _).drewN _).drewN _⟩)
          clear hw2 hcw HG
          go_wp2_with fail
          have hk0 := keptN_all (fun t => d[t]!) k HN.out
          have hk1' : keptN (fun t => d[t]!) (k + 1) = (List.range k).map (fun t => d[t]!) := by rw [keptN_no (by intro h; rcases h with h | h; omega; exact h HE2.out), hk0]
          have HK := Lib.hid hk1'
          clear hk0 hk1'
          go_loopw [3, 5] (fun v3 v5 wr => coJ d w blk off k v3 v5 wr) (fun _ v5 _ => d.size - (intOf v5).toNat)
          case atStart =>
            refine ⟨1, k, d, rfl, rfl, Nat.le_refl _, by omega, by omega, rfl, by rw [HK.out]; simp, fun t ht => ?_, fun t _ => rfl, HS2.out⟩
            rw [HK.out, rangeGet _ k t ht]
          case round =>
            clear HK HS2 HE2 HN
            obtain ⟨r, q, dk, rfl, rfl, hr1, hr2, hqr, hds, hq, hlo, hhi, hrs⟩ := hrel
            have HQ := Lib.hid hq
            have HLo := Lib.hid hlo
            have HHi := Lib.hid hhi
            have HRS := Lib.hid hrs
            clear hq hlo hhi hrs
            by_cases hrt : r < d.size - k
            · have hrz : decide (r < d.size - k) = true := decide_eq_true hrt
              obtain ⟨G, hG⟩ : ∃ G : Nat → Nat, ∀ t, G t = dk[t]! := ⟨fun t => dk[t]!, fun _ => rfl⟩
              have hcw : ∀ t, t < d.size → wr.cell? ⟨blk, off + t, none⟩ = some (.int .u32 ((G t : Nat) : Int)) := fun t ht => by rw [hG]; exact (HRS.out.1 t (by omega)).1
              have hfw : ∀ t, t < d.size → wr.frozen? ⟨blk, off + t, none⟩ = false := fun t ht => (HRS.out.1 t (by omega)).2
              have HG := Lib.hid hG
              clear hG
              have e1 : G (k + r) = d[k + r]! := by rw [HG.out]; exact HHi.out _ (by omega)
              have e2 : G (k + (r - 1)) = d[k + r - 1]! := by rw [HG.out, show k + (r - 1) = k + r - 1 by omega]; exact HHi.out _ (by omega)
              have HE := Lib.hid (And.intro e1 e2)
              clear e1 e2
              by_cases heq : G (k + r) = G (k + (r - 1))
              · have heqz : (((G (k + r) : Nat) : Int) != ((G (k + (r - 1)) : Nat) : Int)) = false := by simp [heq]
                have hkn2 : keptN (fun t => d[t]!) (k + r + 1) = keptN (fun t => d[t]!) (k + r) := keptN_no (by
                  intro h
                  rcases h with h | h
                  · omega
                  · exact h (by rw [← HE.out.1, ← HE.out.2]; exact heq))
                have HKN := Lib.hid hkn2
                clear hkn2 heq
                go_wp2_with fail
                go_quiet (fail)
                go_wp2_with fail
                go_roundw
                case rel => exact ⟨r + 1, q, dk, rfl, by go_num, by omega, by omega, by omega, hds, by rw [show k + (r + 1) = k + r + 1 by omega, HKN.out]; exact HQ.out, by rw [show k + (r + 1) = k + r + 1 by omega, HKN.out]; exact HLo.out, HHi.out, HRS.out.drewN _⟩
                case measure => simp [intOf]; omega
              · have heqz : (((G (k + r) : Nat) : Int) != ((G (k + (r - 1)) : Nat) : Int)) = true := by rw [bne_iff_ne]; omega
                have hkn2 : keptN (fun t => d[t]!) (k + r + 1) = keptN (fun t => d[t]!) (k + r) ++ [d[k + r]!] := keptN_yes (.inr (by
                  intro h
                  exact heq (by rw [HE.out.1, HE.out.2]; exact h)))
                have HKN := Lib.hid hkn2
                clear hkn2 heq
                go_wp2_with fail
                go_quiet (fail)
                go_wp2_with fail
                go_roundw
                case rel =>
                  rw [HE.out.1]
                  refine ⟨r + 1, q + 1, dk.setIfInBounds q d[k + r]!, by go_num, by go_num, by omega, by omega, by omega, by simpa using hds, by rw [show k + (r + 1) = k + r + 1 by omega, HKN.out, List.length_append, HQ.out]; rfl, fun t ht => ?_, fun t ht => ?_, (HRS.out.drewN nq).set (by omega) _⟩
                  · rw [show k + (r + 1) = k + r + 1 by omega, HKN.out]
                    rcases Nat.lt_or_ge t q with h | h
                    · rw [set_other _ _ _ _ (by omega), getB _ _ _ (by rw [← HQ.out]; exact h)]
                      exact HLo.out t h
                    · obtain rfl : t = q := by omega
                      rw [set_same _ _ _ (by omega)]
                      have := getLastB (keptN (fun t => d[t]!) (k + r)) d[k + r]!
                      rw [← HQ.out] at this
                      exact this.symm
                  · rw [set_other _ _ _ _ (by omega)]
                    exact HHi.out t (by omega)
                case measure => simp [intOf]; omega
            · have hrz : decide (r < d.size - k) = false := decide_eq_false hrt
              have hkr : k + r = d.size := by omega
              have hq := HQ.out
              have hlo := HLo.out
              rw [hkr] at hq hlo
              have HQ2 := Lib.hid hq
              have HL2 := Lib.hid hlo
              have hz0 : (zeroValue 23).run Try.prog = fun w => .ok (.int .u32 0) w := by funext w; kernel_rfl
              have hcl : ∀ ty, (Builtin.clear_ #[24] ty #[.slice (some ⟨blk, off + q, none⟩) (d.size - q) (cap - q)]).run Try.prog wr = .ok (.tuple #[]) (wr.setCells blk (off + q) (List.replicate (d.size - q) (.int .u32 0))) :=
                fun ty => Lib.run_clear_slice wr 24 23 ty _ Try.underlying24 (fun w => by rw [hz0]) rfl rfl blk (off + q) _ _ (by omega)
                  (fun j hj => by rw [show off + q + j = off + (q + j) by omega, (HRS.out.1 (q + j) (by omega)).1]; rfl) (fun j hj => by rw [show off + q + j = off + (q + j) by omega]; exact (HRS.out.1 (q + j) (by omega)).2)
              have hqc : (q : Int) ≤ (d.size : Int) := by omega
              have hq0 : (0 : Int) ≤ (q : Int) := by omega
              have hqc2 : ¬ cap = q := by omega
              have hqc3 : (q : Int) ≤ (cap : Int) := by omega
              clear hkr hq hlo hz0 HQ HLo
              go_wp2_with fail
              go_ret
              refine ⟨by rw [← HQ2.out]; rfl, ?_⟩
              exact HRS.out.clear q _ (by rw [← HQ2.out]; exact Nat.le_refl _) (by omega) (fun t ht => HL2.out t (by rw [HQ2.out]; exact ht)) _
        · have heqz : (((G k : Nat) : Int) == ((G (k - 1) : Nat) : Int)) = false := by rw [beq_eq_false_iff_ne]; omega
          have HE2 := Lib.hid (show d[k]! ≠ d[k - 1]! by rw [← HG.out, ← HG.out]; exact heq)
          clear heq
          go_wp2_with fail
          go_quiet (fail)
          go_wp2_with fail
          go_roundw
          case rel =>
            refine ⟨k + 1, _, by go_num, by omega, by omega, fun i h1 h2 => ?_, rfl⟩
            rcases Nat.lt_or_ge i k with h | h
            · exact HN.out i h1 h
            · rw [show i = k by omega]; exact HE2.out
          case measure => simp [intOf]; omega
      · obtain rfl : k = d.size := by omega
        have hk := keptN_all (fun t => d[t]!) d.size HN.out
        have hkl : (keptN (fun t => d[t]!) d.size).length = d.size := by rw [hk]; simp
        have hkd : (keptN (fun t => d[t]!) d.size).toArray = d := by
          rw [hk]
          apply Array.ext
          · simp
          · intro i h1 h2
            simp
            rw [getElem!_pos d i h2]
        have HK := Lib.hid (And.intro hkl hkd)
        clear hk hkl hkd
        go_wp2_with fail
        go_ret
        exact ⟨by rw [HK.out.1]; rfl, by rw [HK.out.2]; exact ⟨HH.out, (OnlyB.refl _ _).drewN _⟩⟩

/-! ### of nothing -/
theorem comp32_nil (ao : Option Addr) (cap : Nat) (w : World) : Calls Try.prog 72 #[.slice ao 0 cap] w fun e w' => e = .returned (.slice ao 0 cap) ∧ w' = w := by
  go_enter Try.func72, Try.ntmps72
  go_wp2
  go_ret
  exact ⟨rfl, rfl⟩
theorem ins32_nil (ao : Option Addr) (cap : Nat) (w : World) : Calls Try.prog 127 #[.slice ao 0 cap, .int .i64 0, .int .i64 0] w fun e w' => e = .returned (.tuple #[]) ∧ w' = w := by
  go_enter Try.func127, Try.ntmps127
  go_wp2_with fail
  refine wp_loop_rounds 1 ?_
  rw [rounds_succ]
  go_wp2_with fail
  go_end0
  exact ⟨rfl, rfl⟩
set_option maxRecDepth 100000 in
theorem pdq32_nil (ao : Option Addr) (cap : Nat) (l : Nat) (w : World) : Calls Try.prog 100 #[.slice ao 0 cap, .int .i64 0, .int .i64 0, .int .i64 l] w fun e w' => e = .returned (.tuple #[]) ∧ w' = w := by
  go_enter Try.func100, Try.ntmps100
  go_wp2_with fail
  refine wp_loop_rounds 1 ?_
  rw [rounds_succ]
  go_wp2_with (go_at_call 127; refine (ins32_nil _ _ _).mono ?_; rintro e w' ⟨rfl, rfl⟩)
  (try simp only [Exit.inBlock, Exit.then])
  refine bodyPost_ret (results_none rfl _ _ _) rfl ?_
  exact ⟨rfl, rfl⟩
theorem sort32_nil (ao : Option Addr) (cap : Nat) (w : World) : Calls Try.prog 71 #[.slice ao 0 cap] w fun e w' => e = .returned (.tuple #[]) ∧ w' = w := by
  have HL := Lib.hid (fun W => len_any 0 (by omega) W)
  go_enter Try.func71, Try.ntmps71
  go_wp2_with (first
    | (go_at_call 93; refine (HL.out _).mono ?_; rintro e w' ⟨rfl, rfl⟩)
    | (go_at_call 100; refine (pdq32_nil _ _ _ _).mono ?_; rintro e w' ⟨rfl, rfl⟩))
  go_end0
  exact ⟨rfl, rfl⟩
end Go.Proofs.Ytlgnpogmgpgdaaa
