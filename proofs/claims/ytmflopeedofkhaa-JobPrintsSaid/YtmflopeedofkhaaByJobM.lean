/- Texts merged into one: JobMayP, JobMay, JobRef, JobWalk. -/
import Derived.Test.YtmflopeedofkhaaByJobP
import Derived.Test.YtmflopeedofkhaaU32s
import Derived.Test.YtmflopeedofkhaaByRep
import Derived.Test.YtmflopeedofkhaaBySort
import Derived.Lib.LazyBuf
import Derived.Laws.Rows
import Derived.Maps.RangeWalk
import Derived.Test.YtmflopeedofkhaaRetB
import Derived.Test.YtmflopeedofkhaaByRow
namespace Go.Proofs.Ytmflopeedofkhaa
set_option linter.unusedSimpArgs false
set_option linter.unusedVariables false
set_option maxRecDepth 100000
open Go.RowKit

theorem numCs_at (jb jo : Nat) : ∀ (xs : List (Nat × Nat × Nat)) (k : Nat) (h : k < xs.length), (numCs jb jo xs)[k * 3]? = some (.pointer (some ⟨jb, jo + xs[k].1, none⟩)) ∧ (numCs jb jo xs)[k * 3 + 1]? = some (.int .u64 (xs[k].2.1 : Nat)) ∧ (numCs jb jo xs)[k * 3 + 2]? = some (.int .u64 (xs[k].2.2 : Nat))
  | x :: xs, 0, _ => ⟨rfl, rfl, rfl⟩
  | x :: xs, k + 1, h => by
    have ih := numCs_at jb jo xs k (by simpa using h)
    have e : numCs jb jo (x :: xs) = .pointer (some ⟨jb, jo + x.1, none⟩) :: .int .u64 (x.2.1 : Nat) :: .int .u64 (x.2.2 : Nat) :: numCs jb jo xs := rfl
    rw [e, show (k + 1) * 3 = k * 3 + 1 + 1 + 1 by omega]
    simpa using ih
theorem numTab_len : ∀ e ∈ numTab, e.2.length ≤ 2 := by decide
theorem numTab_small : ∀ e ∈ numTab, ∀ x ∈ e.2, x.1 < 15 ∧ x.1 ≠ 0 ∧ x.1 ≠ 1 ∧ x.1 ≠ 4 ∧ x.2.1 < 4294967296 ∧ x.2.2 < 4294967296 := by decide
theorem numTab_word : ∀ e ∈ numTab, ∀ e' ∈ numTab, e.1 = e'.1 → e = e' := by decide
theorem jobC_cell (j : JobD) (ao : Option Addr) (cap c : Nat) (h : c < 15) (h0 : c ≠ 0) (h1 : c ≠ 1) (h4 : c ≠ 4) : (jobCs j ao cap)[c]? = some (.int .u32 (jobC j c : Nat)) := by
  rcases c with _ | _ | _ | _ | _ | _ | _ | _ | _ | _ | _ | _ | _ | _ | _ | c <;> first | omega | rfl
theorem jobC_lt {j : JobD} (h : JobOk j) (c : Nat) : jobC j c < 4294967296 := by
  unfold jobC
  split <;> first | exact h.length | exact h.walks | exact h.stop | exact h.od | exact h.p | exact h.q | exact h.tries | exact h.best | exact h.bsh | exact h.bro | exact h.bpo | exact h.bso | omega
/-- an entry whose numbers are all in their bounds -/
def EntOk (j : JobD) (x : MapEntry) : Prop := ∃ e ∈ numTab, x.key = .string (bs e.1) ∧ e.2.all (fun x => inB (jobC j x.1) x.2.1 x.2.2) = true
theorem allNums_yes {j : JobD} {T : TypeId} {jb jo : Nat} {w : World} {mb : Nat} {es : List MapEntry} (h : NumsAt T jb jo w mb es) (ho : ∀ x ∈ es, EntOk j x) : allNums j = true := by
  refine List.all_eq_true.2 fun e he => ?_
  obtain ⟨x, hx, hk⟩ := h.all e he
  obtain ⟨e', he', hk', ha⟩ := ho x hx
  rw [hk] at hk'
  injection hk' with hk'
  have := numTab_word e he e' he' (bs_inj hk')
  subst this
  exact ha
theorem allNums_no {j : JobD} {e : List UInt8 × List (Nat × Nat × Nat)} (he : e ∈ numTab) {x : Nat × Nat × Nat} (hx : x ∈ e.2) (h : inB (jobC j x.1) x.2.1 x.2.2 = false) : allNums j = false := by
  cases ha : allNums j with
  | false => rfl
  | true =>
    have := List.all_eq_true.1 (List.all_eq_true.1 ha e he) x hx
    rw [h] at this; cases this

/-! ### a row sorted and struck of its twins -/
theorem keptN_lt (G : Nat → Nat) : ∀ r, (keptN G r).length = r → ∀ i, 1 ≤ i → i < r → G i ≠ G (i - 1)
  | 0, _, i, _, h => by omega
  | r + 1, h, i, h1, h2 => by
    have hl := keptN_le G r
    rw [keptN, List.length_append] at h
    split at h
    · rename_i hc
      rw [List.length_singleton] at h
      rcases Nat.lt_or_ge i r with h3 | h3
      · exact keptN_lt G r (by omega) i h1 h3
      · obtain rfl : i = r := by omega
        rcases hc with hc | hc
        · omega
        · exact hc
    · simp at h; omega
theorem nodup_kept {l : List Nat} {d : Array Nat} (hp : Sort.PermIn 0 l.length l.toArray d) (hs : Srt 0 l.length d) : (keptN (fun t => d[t]!) l.length).length = l.length ↔ l.Nodup := by
  obtain ⟨p1, _, p3⟩ := hp
  simp only [List.size_toArray] at p1
  have hperm : d.toList.Perm l := by
    have e1 : d.extract 0 l.length = d := by rw [← p1]; simp
    have e2 : l.toArray.extract 0 l.length = l.toArray := by
      have : l.toArray.size = l.length := by simp
      rw [← this]; exact Array.extract_size
    rw [e1, e2] at p3
    simpa using p3
  rw [← hperm.nodup_iff]
  have hg : ∀ i, (h : i < d.toList.length) → d[i]! = d.toList[i] := fun i h => by
    rw [getElem!_pos d i (by simpa using h)]; simp
  constructor
  · intro h
    have hne := keptN_lt _ _ h
    have hlt : ∀ i, ∀ j, i < j → j < l.length → d[i]! < d[j]! := by
      intro i j hij hj
      induction j with
      | zero => omega
      | succ j ih =>
        have h1 := hne (j + 1) (by omega) hj
        simp only [Nat.add_sub_cancel] at h1
        have h2 := hs j (j + 1) (Nat.zero_le _) (by omega) hj
        rcases Nat.lt_or_ge i j with h3 | h3
        · have := ih h3 (by omega); omega
        · obtain rfl : i = j := by omega
          omega
    refine List.pairwise_iff_getElem.2 fun i j hi hj hij => ?_
    have := hlt i j hij (by simpa [p1] using hj)
    rw [hg i hi, hg j hj] at this
    omega
  · intro h
    rw [keptN_all]
    · simp
    · intro i h1 h2 e
      have hi : i < d.toList.length := by simpa [p1] using h2
      have := List.pairwise_iff_getElem.1 h (i - 1) i (by omega) hi (by omega)
      apply this
      rw [← hg i hi, ← hg (i - 1) (by omega)]
      exact e.symm
set_option maxHeartbeats 1600000 in
theorem clone32_any (l : List Nat) (ao : Option Addr) (cap : Nat) (w : World) (h0 : 0 < l.length) (hl : l.length ≤ 1073741824) (hrd : Rd w ao l.length (u32s l)) :
    Calls Try.prog 29 #[.slice ao l.length cap] w (RetOwn 25 1 l.length (u32s l) w) := by
  have hE := u32sElem
  have hsrc : Src Try.prog 1 26 (.slice ao l.length cap) l.length (u32s l) (w.alloc (.cells #[] 25)) := (hrd.ext (ext_alloc w _)).src Try.underlying26 cap (u32s_one l)
  obtain ⟨b, off, rfl, hb, hc⟩ := hrd.pos h0
  have hnil : (binOp .eql 26 (.slice (some ⟨b, off, none⟩) l.length cap) (.slice none 0 0)).run Try.prog w = .ok (.bool false) w := Go.run_eql_slice_nil w _ _ _ _ _ Try.underlying26
  have Hsrc := Lib.hid hsrc
  clear hsrc hc hrd
  go_enter Try.func29, Try.ntmps29
  go_wp2_with (at_builtin; refine wpList_app rfl (.tmp 5) (.tmp 6) 26 26 rfl hE (Own.emptyAt w 25 1 w.heap.size rfl) rfl rfl Hsrc.out (by simp [maxLen]; omega) (by omega) ?_; intro ao4 cap4 g4 W4 ho4 hg4 hon4; obtain ⟨hG, hBB⟩ := app_blocks (w := w) (W := w.alloc (.cells #[] 25)) (fun k h => by cases h; exact Nat.le_refl _) (ext_alloc w _) hg4 hon4; have Ho4 := Lib.hid ho4; clear ho4 hg4 hon4)
  go_ret
  exact ⟨ao4, cap4, g4, by simp, by simpa using Ho4.out, hG, hBB⟩

/-! ### a range over a map, operation by operation -/
end Go.Proofs.Ytmflopeedofkhaa

namespace Go.Proofs.Ytmflopeedofkhaa
set_option linter.unusedSimpArgs false
set_option linter.unusedVariables false
set_option maxRecDepth 100000
open Go.RowKit

theorem kinds_any (w : World) : Calls Try.prog 27 #[] w fun e w' => ∃ v, e = .returned v ∧ Below w.heap.size w w' := by
  go_enter Try.func27, Try.ntmps27
  go_wp2_with fail
  refine bodyPost_ret (results_cell_row rfl _ _ w.heap.size 64 _ (0, 0) _ rfl (heap_alloc_new w _) Try.underlying64 rfl (by kernel_rfl)) rfl ⟨_, rfl, ext_alloc w _⟩
def mayS (jb kind stop od : Nat) (ao : Option Addr) (n cap : Nat) (w' : World) : Prop := w'.cell? ⟨jb, 0, none⟩ = some (.int .u8 (kind : Nat)) ∧ w'.cell? ⟨jb, 4, none⟩ = some (.slice ao n cap) ∧ w'.cell? ⟨jb, 5, none⟩ = some (.int .u32 (stop : Nat)) ∧ w'.cell? ⟨jb, 6, none⟩ = some (.int .u32 (od : Nat))
theorem bcell' {b : Nat} {w w' : World} (h : Below (b + 1) w w') (o : Nat) : w'.cell? ⟨b, o, none⟩ = w.cell? ⟨b, o, none⟩ := World.cell?_of_block (w := w) (h.block b (by omega))
theorem NumsAt.ext {T : TypeId} {jb jo : Nat} {w w' : World} {mb : Nat} {es : List MapEntry} (h : NumsAt T jb jo w mb es) (hB : Below w.heap.size w w') : NumsAt T jb jo w' mb es :=
  ⟨h.map.ext hB, h.born, h.borns, h.keys, h.all, fun x hx => by
    obtain ⟨e, he, b, h1, h2, h3⟩ := h.each x hx
    exact ⟨e, he, b, h1, h2, (hB.block b (Array.getElem?_eq_some_iff.1 h3).1).trans h3⟩⟩
theorem NumsAt.only {T : TypeId} {jb jo r clk : Nat} {seen : Array Nat} {m : Option Nat} {w w' : World} {mb : Nat} {es : List MapEntry} (h : NumsAt T jb jo w mb es) (hi : w.heap[r]? = some (.mapIter m clk seen clk)) (hB : Only (fun k => k = r) w w') : NumsAt T jb jo w' mb es :=
  ⟨h.map.keep (hB.same mb h.map.lt (fun e => by
      have := h.map; unfold MapIs at this; rw [e, hi] at this; cases this)), h.born, h.borns, h.keys, h.all, fun x hx => by
    obtain ⟨e, he, b, h1, h2, h3⟩ := h.each x hx
    exact ⟨e, he, b, h1, h2, (hB.same b (Array.getElem?_eq_some_iff.1 h3).1 (fun e => by rw [e, hi] at h3; cases h3)).trans h3⟩⟩
def mayI (j : JobD) (es : List MapEntry) (r mb : Nat) (wR wr : World) : Prop := ∃ seen, IterIs wr r mb es.length seen ∧ Only (fun k => k = r) wR wr ∧ ∀ x ∈ es, x.born ∈ seen → EntOk j x
def mayK (j : JobD) (xs : List (Nat × Nat × Nat)) (wx : World) (i : Value) (wr : World) : Prop := ∃ k : Nat, k ≤ xs.length ∧ i = .int .i64 (k : Nat) ∧ Below wx.heap.size wx wr ∧ ∀ t (h : t < xs.length), t < k → inB (jobC j xs[t].1) xs[t].2.1 xs[t].2.2 = true
set_option maxHeartbeats 6400000 in
theorem may_any (j : JobD) (hj : JobOk j) (ao : Option Addr) (cap : Nat) (w : World) (hsrc : Rd w ao j.src.length (u32s j.src)) :
    Calls Try.prog 12 #[.agg (jobCs j ao cap)] w fun e w' => e = .returned (.bool (mayJ j)) ∧ Below w.heap.size w w' := by
  rw [mayJ_nums hj]
  have HK := Lib.hid kinds_any
  have HN := Lib.hid numbers_any
  have hk0 := hj.kind
  have hk1 := hj.stop
  have hk2 := hj.od
  have Hj := Lib.hid hj
  have Hsrc := Lib.hid hsrc
  clear hj hsrc
  go_enter Try.func12, Try.ntmps12
  go_wp2_with fail
  obtain ⟨w0, hw0⟩ : ∃ w0, w0 = w.alloc (.cells (jobCs j ao cap) 30) := ⟨_, rfl⟩
  rw [← hw0]
  have hcell : ∀ c v, (jobCs j ao cap)[c]? = some v → w0.cell? ⟨w.heap.size, c, none⟩ = some v := fun c v h => by
    rw [hw0, World.cell?_alloc_new]; exact h
  have q0 : w0.cell? ⟨w.heap.size, 0, none⟩ = some (.int .u8 (j.kind : Nat)) := hcell 0 _ rfl
  obtain ⟨n, hn⟩ : ∃ n, n = j.src.length := ⟨_, rfl⟩
  have q4 : w0.cell? ⟨w.heap.size, 4, none⟩ = some (.slice ao n cap) := by rw [hn]; exact hcell 4 _ rfl
  have Hn := Lib.hid hn
  have q5 : w0.cell? ⟨w.heap.size, 5, none⟩ = some (.int .u32 (j.stop : Nat)) := hcell 5 _ rfl
  have q6 : w0.cell? ⟨w.heap.size, 6, none⟩ = some (.int .u32 (j.od : Nat)) := hcell 6 _ rfl
  have hB0 : Below w.heap.size w w0 := by rw [hw0]; exact ext_alloc _ _
  have hz0 : w0.heap.size = w.heap.size + 1 := by rw [hw0]; simp
  have HB0 := Lib.hid hB0
  have Hcell := Lib.hid hcell
  have Hz0 := Lib.hid hz0
  clear hw0 hcell hB0 hn
  have hkw : IntKind.i64.wrap (j.kind : Int) = (j.kind : Int) := IntWalk.i64_in _ (by omega)
  by_cases h1 : j.kind < 3
  · have g1 : decide (3 ≤ (j.kind : Int)) = false := decide_eq_false (by omega)
    have g1' : decide (3 ≤ j.kind) = false := decide_eq_false (by omega)
    by_cases h2 : j.stop ≤ j.od
    · have g2 : decide ((j.od : Int) < (j.stop : Int)) = false := decide_eq_false (by omega)
      have g2' : decide (j.od < j.stop) = false := decide_eq_false (by omega)
      by_cases h3 : 0 < n
      · have g3 : ((n : Int) == 0) = false := beq_eq_false_iff_ne.2 (by omega)
        have g3' : (n == 0) = false := beq_eq_false_iff_ne.2 (by omega)
        by_cases h4 : n ≤ 256
        · have g4 : decide (256 < (n : Int)) = false := decide_eq_false (by omega)
          have g4' : decide (256 < n) = false := decide_eq_false (by omega)
          go_wp2_with fail
          go_region_held3 (fun w' => w'.cell? ⟨w.heap.size, 0, none⟩ = some (.int .u8 (j.kind : Nat)) ∧ w'.cell? ⟨w.heap.size, 4, none⟩ = some (.slice ao n cap) ∧ w'.cell? ⟨w.heap.size, 5, none⟩ = some (.int .u32 (j.stop : Nat)) ∧ w'.cell? ⟨w.heap.size, 6, none⟩ = some (.int .u32 (j.od : Nat)))
            (first | exact ⟨q0, q4, q5, q6⟩ | exact HP1.out)
            (first
              | (go_at_call 27; refine (HK.out _).mono ?_; rintro e w1 ⟨v1, rfl, hB1⟩; have hB1' : Below (w.heap.size + 1) w0 w1 := (ext_drew w0).mono (by omega) |>.trans (hB1.mono (by simp; omega)); have HP1 := Lib.hid (And.intro ((bcell' hB1' 0).trans q0) (And.intro ((bcell' hB1' 4).trans q4) (And.intro ((bcell' hB1' 5).trans q5) ((bcell' hB1' 6).trans q6)))); have HB1 := Lib.hid hB1'; clear hB1 hB1')
              | fail "no arm")
          clear g1 g1' g2 g2' g3 g3' g4 g4' hkw
          go_wp2_with (first
            | (go_at_call 28; refine (HN.out _ _ _).mono ?_; rintro e w2 ⟨mb, es, rfl, hmb, hnm, hB2⟩; have hmz := hB2.size; have HNm := Lib.hid hnm; have HB2 := Lib.hid hB2; clear hnm hB2)
            | (at_range; refine wpList_range_is rfl (.tmp 33) 66 rfl Try.underlying66 rfl HNm.out.map ?_))
          go_frame
          obtain ⟨wR, hwR⟩ : ∃ wR, wR = w2.alloc (.mapIter (some mb) es.length #[] es.length) := ⟨_, rfl⟩
          rw [← hwR]
          have hzR : wR.heap.size = w2.heap.size + 1 := by rw [hwR]; simp
          have HIt := Lib.hid (show IterIs wR w2.heap.size mb es.length #[] by rw [hwR]; exact heap_alloc_new w2 _)
          have HNR := Lib.hid (HNm.out.ext (w' := wR) (by rw [hwR]; exact ext_alloc w2 _))
          have hz1 : w0.heap.size ≤ w1.heap.size := by have := HB1.out.size; omega
          have hB0R : Below w0.heap.size w0 wR := ((HB1.out.mono (by omega)).trans (HB2.out.mono hz1)).trans ((by rw [hwR]; exact ext_alloc w2 _ : Below w2.heap.size w2 wR).mono (by omega))
          have HB0R := Lib.hid hB0R
          clear hB0R hwR
          go_loopw [4] (fun _ wr => mayI j es w2.heap.size mb wR wr) (fun _ wr => (leftOf es.toArray (wr.iterSeen w2.heap.size)).size)
          case atStart => exact ⟨#[], HIt.out, Only.refl _ _, fun x _ h => by simp at h⟩
          case round =>
            obtain ⟨wo, rfl⟩ : ∃ wo : World, wo = wr := ⟨_, rfl⟩
            obtain ⟨seen, hit, hon, hall⟩ := hrel
            have Hit := Lib.hid hit
            have Hon := Lib.hid hon
            have Hall := Lib.hid hall
            have HNr := Lib.hid (HNR.out.only HIt.out hon)
            clear hit hon hall
            go_wp2_with (at_next; refine wpList_next_is rfl (.tmp 34) rfl rfl Hit.out HNr.out.map HNr.out.born ?_ ?_)
            case refine_1 =>
              intro hl0
              have hA : allNums j = true := allNums_yes HNr.out fun x hx => Hall.out x hx (by
                by_cases hb : x.born ∈ seen
                · exact hb
                · have : x ∈ leftOf es.toArray seen := by simp [leftOf, hx, hb]
                  rw [hl0] at this; simp at this)
              have HA := Lib.hid hA
              have hzo := Hon.out.size
              have HB0o := Lib.hid (HB0R.out.trans (Hon.out.below (by omega) (fun k hk e => by omega)))
              have hn := Hn.out
              subst hn
              have HCl := Lib.hid (clone32_any j.src ao cap wo h3 (by omega) ((Hsrc.out.ext (HB0.out.trans (HB0o.out.mono (by omega))))))
              have jc : wo.cell? ⟨w.heap.size, 4, none⟩ = some (.slice ao j.src.length cap) := (bcell' (HB0o.out.mono (by omega)) 4).trans q4
              clear hA hl0
              go_wp2_with (first
                | (go_at_call 29; refine HCl.out.mono ?_; rintro e w4 ⟨a4, c4, g4, rfl, ho4, hg4, hB4⟩; obtain ⟨b4, rfl, rfl, hb4⟩ := ho4.pos h3; have hcap4 := ho4.capLe; have hho := own_holds ho4; have hge4 := hg4 b4 rfl; have hS := sort32_any b4 0 c4 j.src.toArray w4 hho hb4 (by simp; omega); rw [List.size_toArray] at hS; have HS := Lib.hid hS; have Ho4 := Lib.hid ho4; have HB4 := Lib.hid hB4; have Hho := Lib.hid hho; clear ho4 hg4 hB4 hho hS)
                | (go_at_call 30; refine HS.out.mono ?_; rintro e w5 ⟨rfl, d', hpm, hst, hrow, hob⟩; have Hpm := Lib.hid hpm; have Hst := Lib.hid hst; have Hrow := Lib.hid hrow; have Hob := Lib.hid hob; clear hpm hst hrow hob))
              have hds : d'.size = j.src.length := Hpm.out.1.trans (by simp)
              have hzo4 := HB4.out.size
              have jc5 : w5.cell? ⟨w.heap.size, 4, none⟩ = some (.slice ao j.src.length cap) := ((World.cell?_of_block (w := w4) (Hob.out.same w.heap.size (by omega) (by omega))).trans (World.cell?_of_block (w := wo) (HB4.out.block w.heap.size (by omega)))).trans jc
              have hcm : c4 ≤ 9223372036854775807 := by have := hcap4.2; simp [maxLen] at this; omega
              have HC := Lib.hid (fun W (h : Sort.Holds e32 W b4 0 d') => comp32_any b4 0 c4 d' W h (by omega) hcm (by omega))
              rw [hds] at HC
              have hle := keptN_le (fun t => d'[t]!) j.src.length
              have hkn := nodup_kept Hpm.out Hst.out
              have Hkn := Lib.hid hkn
              clear hkn hcm hds
              generalize hkl : keptN (fun t => d'[t]!) j.src.length = kl at HC hle
              have Hkl := Lib.hid hkl
              clear hkl
              have HC6 := Lib.hid (HC.out w5.drew (fun i hi => Hrow.out i hi))
              have hz45 := Hob.out.size
              have HJ6 := Lib.hid (fun (w6 : World) (h : OnlyB (fun k => k = b4) w5.drew w6) => (World.cell?_of_block (w := w5) (a := ⟨w.heap.size, 4, none⟩) (h.same w.heap.size (show w.heap.size < w5.heap.size by omega) (by omega))).trans jc5)
              go_region_held3 (fun w' => w'.cell? ⟨w.heap.size, 4, none⟩ = some (.slice ao j.src.length cap))
                (first | exact jc5 | exact jc6)
                (first
                  | (go_at_call 31; refine HC6.out.mono ?_; rintro e w6 ⟨rfl, hrow6, hob6⟩; have jc6 := HJ6.out w6 hob6; have Hob6 := Lib.hid hob6; clear hob6 hrow6)
                  | fail "no arm")
              go_wp2_with fail
              go_ret
              refine ⟨?_, ?_⟩
              · have hk := Hkn.out
                rw [Hkl.out] at hk
                show Ending.returned (Value.bool ((kl.length : Int) == (j.src.length : Int))) = _
                rw [HA.out]
                by_cases hd : j.src.Nodup
                · have := hk.2 hd
                  simp [this, hd, h1, h2, h3, h4]
                · have hne : ¬ kl.length = j.src.length := fun e => hd (hk.1 e)
                  have : ((kl.length : Int) == (j.src.length : Int)) = false := beq_eq_false_iff_ne.2 (by omega)
                  simp [this, hd]
              · have o5 : Only (fun k => k = b4) w4 w5 := ⟨Hob.out.os, Hob.out.tape, Hob.out.output, Hob.out.size, Hob.out.same⟩
                have o6 : Only (fun k => k = b4) w5.drew w6 := ⟨Hob6.out.os, Hob6.out.tape, Hob6.out.output, Hob6.out.size, Hob6.out.same⟩
                have b5 : Below wo.heap.size w4 w5 := o5.below hzo4 (fun k hk e => by omega)
                have b6 : Below wo.heap.size w5.drew w6 := o6.below (show wo.heap.size ≤ w5.heap.size by omega) (fun k hk e => by omega)
                have bo : Below wo.heap.size wo w6 := HB4.out.trans (b5.trans (((ext_drew w5).mono (by omega)).trans b6))
                exact HB0.out.trans ((HB0o.out.mono (by omega)).trans (bo.mono (by omega)))
            case refine_2 =>
              rintro ⟨ky, vl, bn⟩ w3 he hit3 hon3 hs3
              have he := Array.mem_toList_iff.2 he
              obtain ⟨hm3, hns3⟩ := mem_left he
              have hm3' : (⟨ky, vl, bn⟩ : MapEntry) ∈ es := by simpa using hm3
              obtain ⟨ee, hee, b, hky, hvl, hbk⟩ := HNr.out.each _ hm3'
              simp only at hky hvl
              subst hky hvl
              have HN3 := Lib.hid (HNr.out.only Hit.out hon3)
              have Hbk3 := Lib.hid ((hon3.same b (Array.getElem?_eq_some_iff.1 hbk).1 (fun e => by have := Hit.out; unfold IterIs at this; rw [e, this] at hbk; cases hbk)).trans hbk)
              have Hit3 := Lib.hid hit3
              have Hon3 := Lib.hid hon3
              have He := Lib.hid he
              have Hm3 := Lib.hid hm3'
              have Hee := Lib.hid hee
              have hel := numTab_len ee hee
              clear hit3 hon3 he hm3 hm3' hns3 hee hbk
              go_wp2_with (refine wpList_entry_is rfl (.tmp 34) rfl rfl Hit3.out HN3.out.map Hm3.out HN3.out.borns ?_)
              have hzr := Hon.out.size
              have hbz3 : b < w3.heap.size := (Array.getElem?_eq_some_iff.1 Hbk3.out).1
              have hB03 : Below (w.heap.size + 1) w0 w3 := (HB0R.out.mono (by omega)).trans ((Hon.out.below (by omega) (fun k hk e => by omega)).trans (Hon3.out.below (by omega) (fun k hk e => by omega)))
              have HB03 := Lib.hid hB03
              clear hB03
              go_loopw [41] (fun i wr => mayK j ee.2 w3 i wr) (fun i _ => ee.2.length - (intOf i).toNat)
              case atStart => exact ⟨0, Nat.zero_le _, rfl, Below.refl _ _, fun t h ht => by omega⟩
              case round =>
                obtain ⟨k, hk, rfl, hBk, hin⟩ := hrel
                have Hin := Lib.hid hin
                have hzk := hBk.size
                have HBk := Lib.hid hBk
                clear hin hBk
                by_cases hlt : k < ee.2.length
                · obtain ⟨c0, c1, c2⟩ := numCs_at w.heap.size 0 ee.2 k hlt
                  obtain ⟨x1, x2, x3, x4, x5, x6⟩ := numTab_small ee Hee.out ee.2[k] (List.getElem_mem hlt)
                  have hcj := jobC_cell j ao cap ee.2[k].1 x1 x2 x3 x4
                  have hcv := jobC_lt Hj.out ee.2[k].1
                  have hbc : ∀ i v, (numCs w.heap.size 0 ee.2)[i]? = some v → wr.cell? ⟨b, i, none⟩ = some v := fun i v h => by
                    rw [World.cell?_of_block (w := w3) (HBk.out.block b hbz3)]
                    simp only [World.cell?, Hbk3.out]
                    simpa using h
                  have c0 := hbc _ _ c0
                  have c1 := hbc _ _ c1
                  have c2 := hbc _ _ c2
                  rw [Nat.zero_add] at c0
                  have cj : wr.cell? ⟨w.heap.size, ee.2[k].1, none⟩ = some (.int .u32 (jobC j ee.2[k].1 : Nat)) := ((bcell' (HB03.out.trans (HBk.out.mono (by omega))) _).trans (Hcell.out _ _ hcj))
                  obtain ⟨x, hx⟩ : ∃ x, x = ee.2[k] := ⟨_, rfl⟩
                  rw [← hx] at c0 c1 c2 cj hcv x5 x6
                  have Hx := Lib.hid hx
                  clear hx hcj hbc x1 x2 x3 x4
                  obtain ⟨xc, lo, hi⟩ := x
                  simp only at c0 c1 c2 cj hcv x5 x6
                  generalize hv : jobC j xc = v at cj hcv
                  have Hv := Lib.hid hv
                  clear hv
                  have hir : (k : Int) < (ee.2.length : Int) := by omega
                  have hvw : IntKind.u64.wrap (v : Int) = (v : Int) := by simp [IntKind.wrap, IntKind.bits, IntKind.signed]; omega
                  go_wp2_with fail
                  obtain ⟨wA, hwA⟩ : ∃ wA, wA = wr.alloc (.cells #[.pointer (some ⟨w.heap.size, xc, none⟩), .int .u64 (lo : Nat), .int .u64 (hi : Nat)] 72) := ⟨_, rfl⟩
                  rw [← hwA]
                  have d0 : wA.cell? ⟨wr.heap.size, 0, none⟩ = some (.pointer (some ⟨w.heap.size, xc, none⟩)) := by rw [hwA, World.cell?_alloc_new]; rfl
                  have d1 : wA.cell? ⟨wr.heap.size, 1, none⟩ = some (.int .u64 (lo : Nat)) := by rw [hwA, World.cell?_alloc_new]; rfl
                  have d2 : wA.cell? ⟨wr.heap.size, 2, none⟩ = some (.int .u64 (hi : Nat)) := by rw [hwA, World.cell?_alloc_new]; rfl
                  have dj : wA.cell? ⟨w.heap.size, xc, none⟩ = some (.int .u32 (v : Nat)) := by
                    rw [World.cell?_of_block (w := wr) (by rw [hwA]; exact Below.heap_alloc wr _ _ (show w.heap.size < wr.heap.size by omega))]; exact cj
                  have HBA := Lib.hid (show Below w3.heap.size w3 wA by rw [hwA]; exact HBk.out.trans ((ext_alloc wr _).mono hzk))
                  have HBw := Lib.hid (HB0.out.trans ((HB03.out.mono (by omega)).trans (HBA.out.mono (by omega))))
                  clear hwA c0 c1 c2 cj
                  by_cases g1 : v < lo
                  · have e1 : decide ((v : Int) < (lo : Int)) = true := decide_eq_true (by omega)
                    have e1' : decide (v < lo) = true := decide_eq_true g1
                    have ha := allNums_no (j := j) Hee.out (x := (xc, lo, hi)) (by rw [Hx.out]; exact List.getElem_mem hlt) (by simp only [Hv.out, inB, decide_eq_false_iff_not]; omega)
                    have Ha := Lib.hid ha
                    clear ha
                    go_quiet (fail)
                    go_wp2_with fail
                    go_ret
                    exact ⟨by rw [Ha.out]; simp, HBw.out.trans ((ext_drewN _ _).mono HBw.out.size)⟩
                  · have e1 : decide ((v : Int) < (lo : Int)) = false := decide_eq_false (by omega)
                    have e1' : decide (v < lo) = false := decide_eq_false g1
                    by_cases g2 : hi < v
                    · have e2 : decide ((hi : Int) < (v : Int)) = true := decide_eq_true (by omega)
                      have e2' : decide (hi < v) = true := decide_eq_true g2
                      have ha := allNums_no (j := j) Hee.out (x := (xc, lo, hi)) (by rw [Hx.out]; exact List.getElem_mem hlt) (by simp only [Hv.out, inB, decide_eq_false_iff_not]; omega)
                      have Ha := Lib.hid ha
                      clear ha
                      go_quiet (fail)
                      go_wp2_with fail
                      go_ret
                      exact ⟨by rw [Ha.out]; simp, HBw.out.trans ((ext_drewN _ _).mono HBw.out.size)⟩
                    · have e2 : decide ((hi : Int) < (v : Int)) = false := decide_eq_false (by omega)
                      have e2' : decide (hi < v) = false := decide_eq_false g2
                      go_quiet (fail)
                      go_wp2_with fail
                      go_roundw
                      case rel =>
                        refine ⟨k + 1, by omega, by go_num, ?_, fun t h ht => ?_⟩
                        · exact HBA.out.trans ((ext_drewN _ _).mono HBA.out.size)
                        · by_cases htk : t < k
                          · exact Hin.out t h htk
                          · obtain rfl : t = k := by omega
                            rw [← Hx.out]
                            simp only [Hv.out, inB, decide_eq_true_eq]
                            omega
                      case measure => simp [intOf]; omega
                · obtain rfl : k = ee.2.length := by omega
                  go_wp2_with fail
                  go_roundw
                  case rel =>
                    refine ⟨seen.push bn, Hit3.out.keep (HBk.out.block _ Hit3.out.lt), (Hon.out.trans Hon3.out (fun _ _ e => e)).ext HBk.out, fun x hx hs => ?_⟩
                    rcases Array.mem_push.1 hs with h | h
                    · exact Hall.out x hx h
                    · rw [born_one HNr.out.borns hx Hm3.out h]
                      refine ⟨ee, Hee.out, rfl, List.all_eq_true.2 fun y hy => ?_⟩
                      obtain ⟨t, ht, rfl⟩ := List.mem_iff_getElem.1 hy
                      exact Hin.out t ht ht
                  case measure =>
                    rw [(Hit3.out.keep (HBk.out.block _ Hit3.out.lt)).iterSeen, Hit.out.iterSeen]
                    exact left_shrinks es.toArray seen _ He.out
        · have g4 : decide (256 < (n : Int)) = true := decide_eq_true (by omega)
          have g4' : decide (256 < n) = true := decide_eq_true (by omega)
          go_wp2_with fail
          go_region_held3 (fun w' => w'.cell? ⟨w.heap.size, 0, none⟩ = some (.int .u8 (j.kind : Nat)) ∧ w'.cell? ⟨w.heap.size, 4, none⟩ = some (.slice ao n cap) ∧ w'.cell? ⟨w.heap.size, 5, none⟩ = some (.int .u32 (j.stop : Nat)) ∧ w'.cell? ⟨w.heap.size, 6, none⟩ = some (.int .u32 (j.od : Nat)))
            (first | exact ⟨q0, q4, q5, q6⟩ | exact HP1.out)
            (first
              | (go_at_call 27; refine (HK.out _).mono ?_; rintro e w1 ⟨v1, rfl, hB1⟩; have hB1' : Below (w.heap.size + 1) w0 w1 := (ext_drew w0).mono (by omega) |>.trans (hB1.mono (by simp; omega)); have HP1 := Lib.hid (And.intro ((bcell' hB1' 0).trans q0) (And.intro ((bcell' hB1' 4).trans q4) (And.intro ((bcell' hB1' 5).trans q5) ((bcell' hB1' 6).trans q6)))); have HB1 := Lib.hid hB1'; clear hB1 hB1')
              | fail "no arm")
          go_wp2_with fail
          go_ret
          refine ⟨?_, HB0.out.trans (HB1.out.mono (by omega))⟩
          have := Hn.out
          simp
          omega
      · have g3 : ((n : Int) == 0) = true := beq_iff_eq.2 (by omega)
        have g3' : (n == 0) = true := beq_iff_eq.2 (by omega)
        go_wp2_with fail
        refine wp_region_held (S := mayS w.heap.size j.kind j.stop j.od ao n cap) (by kernel_rfl) ?_
        have hS0 : mayS w.heap.size j.kind j.stop j.od ao n cap w0.drew := ⟨q0, q4, q5, q6⟩
        change wpAnyH _ _ _ _ _ _ _ _ (World.drew _)
        refine wpAnyH_take (i := 0) (oi := ⟨some 8, _, _, _, _, _⟩) (v := ?_) rfl (by kernel_rfl) (by kernel_rfl) (by kernel_rfl) (fun _ _ _ h => h) (Or.inl ⟨by rfl, ?_⟩) (by assumption) ?_
        rotate_left
        · (intro w' hSw; obtain ⟨s0, s4, s5, s6⟩ := hSw; go_simp; try (with_reducible rfl))
        simp only [Act.put, List.setIfInBounds_toArray, List.set_cons_zero, List.set_cons_succ]
        refine wpAnyH_take (i := 1) (oi := ⟨some 9, _, _, _, _, _⟩) (v := ?_) rfl (by kernel_rfl) (by kernel_rfl) (by kernel_rfl) (fun _ _ _ h => h) (Or.inl ⟨by rfl, ?_⟩) (by assumption) ?_
        rotate_left
        · (intro w' hSw; obtain ⟨s0, s4, s5, s6⟩ := hSw; go_simp; try (with_reducible rfl))
        simp only [Act.put, List.setIfInBounds_toArray, List.set_cons_zero, List.set_cons_succ]
        refine wpAnyH_take (i := 2) (oi := ⟨some 10, _, _, _, _, _⟩) (v := ?_) rfl (by kernel_rfl) (by kernel_rfl) (by kernel_rfl) (fun _ _ _ h => h) (Or.inl ⟨by rfl, ?_⟩) (by assumption) ?_
        rotate_left
        · (intro w' hSw; obtain ⟨s0, s4, s5, s6⟩ := hSw; go_simp; try (with_reducible rfl))
        simp only [Act.put, List.setIfInBounds_toArray, List.set_cons_zero, List.set_cons_succ]
        refine wpAnyH_all (rs := [3]) (by kernel_rfl) (by simp) ?_
        intro i hi
        rw [List.mem_singleton] at hi
        subst hi
        refine wpOp_run (o := ⟨some 11, _, _, _, _, _⟩) rfl rfl fun K' hK => ?_
        go_simp
        refine (HK.out _).mono ?_
        rintro e w1 ⟨v1, rfl, hB1⟩
        have hB1' : Below (w.heap.size + 1) w0 w1 := ((ext_drew w0).mono (by omega)).trans (hB1.mono (by simp; omega))
        have hS1 : mayS w.heap.size j.kind j.stop j.od ao n cap w1 := ⟨(bcell' hB1' 0).trans q0, (bcell' hB1' 4).trans q4, (bcell' hB1' 5).trans q5, (bcell' hB1' 6).trans q6⟩
        have HB1 := Lib.hid hB1'
        clear hB1 hB1'
        refine hK _ _ ⟨hS1, ?_⟩
        refine wpAnyH_take (i := 4) (oi := ⟨some 12, _, _, _, _, _⟩) (v := ?_) rfl (by kernel_rfl) (by kernel_rfl) (by kernel_rfl) (fun _ _ _ h => h) (Or.inl ⟨by rfl, ?_⟩) (by assumption) ?_
        rotate_left
        · (intro w' hSw; obtain ⟨s0, s4, s5, s6⟩ := hSw; go_simp; try (with_reducible rfl))
        simp only [Act.put, List.setIfInBounds_toArray, List.set_cons_zero, List.set_cons_succ]
        refine wpAnyH_take (i := 5) (oi := ⟨some 13, _, _, _, _, _⟩) (v := ?_) rfl (by kernel_rfl) (by kernel_rfl) (by kernel_rfl) (fun _ _ _ h => h) (Or.inl ⟨by rfl, ?_⟩) (by assumption) ?_
        rotate_left
        · (intro w' hSw; obtain ⟨s0, s4, s5, s6⟩ := hSw; go_simp; try (with_reducible rfl))
        simp only [Act.put, List.setIfInBounds_toArray, List.set_cons_zero, List.set_cons_succ]
        refine wpAnyH_take (i := 6) (oi := ⟨some 14, _, _, _, _, _⟩) (v := ?_) rfl (by kernel_rfl) (by kernel_rfl) (by kernel_rfl) (fun _ _ _ h => h) (Or.inl ⟨by rfl, ?_⟩) (by assumption) ?_
        rotate_left
        · (intro w' hSw; obtain ⟨s0, s4, s5, s6⟩ := hSw; go_simp; try (with_reducible rfl))
        simp only [Act.put, List.setIfInBounds_toArray, List.set_cons_zero, List.set_cons_succ]
        refine wpAnyH_take (i := 7) (oi := ⟨some 15, _, _, _, _, _⟩) (v := ?_) rfl (by kernel_rfl) (by kernel_rfl) (by kernel_rfl) (fun _ _ _ h => h) (Or.inl ⟨by rfl, ?_⟩) (by assumption) ?_
        rotate_left
        · (intro w' hSw; obtain ⟨s0, s4, s5, s6⟩ := hSw; go_simp; try (with_reducible rfl))
        simp only [Act.put, List.setIfInBounds_toArray, List.set_cons_zero, List.set_cons_succ]
        refine wpAnyH_take (i := 8) (oi := ⟨some 16, _, _, _, _, _⟩) (v := ?_) rfl (by kernel_rfl) (by kernel_rfl) (by kernel_rfl) (fun _ _ _ h => h) (Or.inl ⟨by rfl, ?_⟩) (by assumption) ?_
        rotate_left
        · (intro w' hSw; obtain ⟨s0, s4, s5, s6⟩ := hSw; go_simp; try (with_reducible rfl))
        simp only [Act.put, List.setIfInBounds_toArray, List.set_cons_zero, List.set_cons_succ]
        refine wpAnyH_take (i := 9) (oi := ⟨some 17, _, _, _, _, _⟩) (v := ?_) rfl (by kernel_rfl) (by kernel_rfl) (by kernel_rfl) (fun _ _ _ h => h) (Or.inl ⟨by rfl, ?_⟩) (by assumption) ?_
        rotate_left
        · (intro w' hSw; obtain ⟨s0, s4, s5, s6⟩ := hSw; go_simp; try (with_reducible rfl))
        simp only [Act.put, List.setIfInBounds_toArray, List.set_cons_zero, List.set_cons_succ]
        refine wpAnyH_take (i := 10) (oi := ⟨some 18, _, _, _, _, _⟩) (v := ?_) rfl (by kernel_rfl) (by kernel_rfl) (by kernel_rfl) (fun _ _ _ h => h) (Or.inl ⟨by rfl, ?_⟩) (by assumption) ?_
        rotate_left
        · (intro w' hSw; obtain ⟨s0, s4, s5, s6⟩ := hSw; go_simp; try (with_reducible rfl))
        simp only [Act.put, List.setIfInBounds_toArray, List.set_cons_zero, List.set_cons_succ]
        refine wpAnyH_take (i := 11) (oi := ⟨some 19, _, _, _, _, _⟩) (v := ?_) rfl (by kernel_rfl) (by kernel_rfl) (by kernel_rfl) (fun _ _ _ h => h) (Or.inl ⟨by rfl, ?_⟩) (by assumption) ?_
        rotate_left
        · (intro w' hSw; obtain ⟨s0, s4, s5, s6⟩ := hSw; go_simp; try (with_reducible rfl))
        simp only [Act.put, List.setIfInBounds_toArray, List.set_cons_zero, List.set_cons_succ]
        refine wpAnyH_take (i := 12) (oi := ⟨some 20, _, _, _, _, _⟩) (v := ?_) rfl (by kernel_rfl) (by kernel_rfl) (by kernel_rfl) (fun _ _ _ h => h) (Or.inl ⟨by rfl, ?_⟩) (by assumption) ?_
        rotate_left
        · (intro w' hSw; obtain ⟨s0, s4, s5, s6⟩ := hSw; go_simp; try (with_reducible rfl))
        simp only [Act.put, List.setIfInBounds_toArray, List.set_cons_zero, List.set_cons_succ]
        refine wpAnyH_take (i := 13) (oi := ⟨some 21, _, _, _, _, _⟩) (v := ?_) rfl (by kernel_rfl) (by kernel_rfl) (by kernel_rfl) (fun _ _ _ h => h) (Or.inl ⟨by rfl, ?_⟩) (by assumption) ?_
        rotate_left
        · (intro w' hSw; obtain ⟨s0, s4, s5, s6⟩ := hSw; go_simp; try (with_reducible rfl))
        simp only [Act.put, List.setIfInBounds_toArray, List.set_cons_zero, List.set_cons_succ]
        refine wpAnyH_take (i := 14) (oi := ⟨some 22, _, _, _, _, _⟩) (v := ?_) rfl (by kernel_rfl) (by kernel_rfl) (by kernel_rfl) (fun _ _ _ h => h) (Or.inl ⟨by rfl, ?_⟩) (by assumption) ?_
        rotate_left
        · (intro w' hSw; obtain ⟨s0, s4, s5, s6⟩ := hSw; go_simp; try (with_reducible rfl))
        simp only [Act.put, List.setIfInBounds_toArray, List.set_cons_zero, List.set_cons_succ]
        refine wpAnyH_take (i := 15) (oi := ⟨some 23, _, _, _, _, _⟩) (v := ?_) rfl (by kernel_rfl) (by kernel_rfl) (by kernel_rfl) (fun _ _ _ h => h) (Or.inl ⟨by rfl, ?_⟩) (by assumption) ?_
        rotate_left
        · (intro w' hSw; obtain ⟨s0, s4, s5, s6⟩ := hSw; go_simp; try (with_reducible rfl))
        simp only [Act.put, List.setIfInBounds_toArray, List.set_cons_zero, List.set_cons_succ]
        refine wpAnyH_take (i := 16) (oi := ⟨some 24, _, _, _, _, _⟩) (v := ?_) rfl (by kernel_rfl) (by kernel_rfl) (by kernel_rfl) (fun _ _ _ h => h) (Or.inl ⟨by rfl, ?_⟩) (by assumption) ?_
        rotate_left
        · (intro w' hSw; obtain ⟨s0, s4, s5, s6⟩ := hSw; go_simp; try (with_reducible rfl))
        simp only [Act.put, List.setIfInBounds_toArray, List.set_cons_zero, List.set_cons_succ]
        refine wpAnyH_take (i := 17) (oi := ⟨some 25, _, _, _, _, _⟩) (v := ?_) rfl (by kernel_rfl) (by kernel_rfl) (by kernel_rfl) (fun _ _ _ h => h) (Or.inl ⟨by rfl, ?_⟩) (by assumption) ?_
        rotate_left
        · (intro w' hSw; obtain ⟨s0, s4, s5, s6⟩ := hSw; go_simp; try (with_reducible rfl))
        simp only [Act.put, List.setIfInBounds_toArray, List.set_cons_zero, List.set_cons_succ]
        refine wpAnyH_take (i := 18) (oi := ⟨some 26, _, _, _, _, _⟩) (v := ?_) rfl (by kernel_rfl) (by kernel_rfl) (by kernel_rfl) (fun _ _ _ h => h) (Or.inl ⟨by rfl, ?_⟩) (by assumption) ?_
        rotate_left
        · (intro w' hSw; obtain ⟨s0, s4, s5, s6⟩ := hSw; go_simp; try (with_reducible rfl))
        simp only [Act.put, List.setIfInBounds_toArray, List.set_cons_zero, List.set_cons_succ]
        refine wpAnyH_take (i := 19) (oi := ⟨some 27, _, _, _, _, _⟩) (v := ?_) rfl (by kernel_rfl) (by kernel_rfl) (by kernel_rfl) (fun _ _ _ h => h) (Or.inl ⟨by rfl, ?_⟩) (by assumption) ?_
        rotate_left
        · (intro w' hSw; obtain ⟨s0, s4, s5, s6⟩ := hSw; go_simp; try (with_reducible rfl))
        simp only [Act.put, List.setIfInBounds_toArray, List.set_cons_zero, List.set_cons_succ]
        refine wpAnyH_take (i := 20) (oi := ⟨some 28, _, _, _, _, _⟩) (v := undef) rfl (by kernel_rfl) (by kernel_rfl) (by kernel_rfl) (fun _ _ _ h => h) (Or.inr ⟨by rfl, rfl⟩) (by assumption) ?_
        simp only [Act.put, List.setIfInBounds_toArray, List.set_cons_zero, List.set_cons_succ]
        refine wpAnyH_take (i := 21) (oi := ⟨some 29, _, _, _, _, _⟩) (v := undef) rfl (by kernel_rfl) (by kernel_rfl) (by kernel_rfl) (fun _ _ _ h => h) (Or.inr ⟨by rfl, rfl⟩) (by assumption) ?_
        simp only [Act.put, List.setIfInBounds_toArray, List.set_cons_zero, List.set_cons_succ]
        refine wpAnyH_take (i := 22) (oi := ⟨some 30, _, _, _, _, _⟩) (v := undef) rfl (by kernel_rfl) (by kernel_rfl) (by kernel_rfl) (fun _ _ _ h => h) (Or.inr ⟨by rfl, rfl⟩) (by assumption) ?_
        simp only [Act.put, List.setIfInBounds_toArray, List.set_cons_zero, List.set_cons_succ]
        refine wpAnyH_take (i := 23) (oi := ⟨some 31, _, _, _, _, _⟩) (v := undef) rfl (by kernel_rfl) (by kernel_rfl) (by kernel_rfl) (fun _ _ _ h => h) (Or.inr ⟨by rfl, rfl⟩) (by assumption) ?_
        simp only [Act.put, List.setIfInBounds_toArray, List.set_cons_zero, List.set_cons_succ]
        refine wpAnyH_take (i := 24) (oi := ⟨some 32, _, _, _, _, _⟩) (v := ?_) rfl (by kernel_rfl) (by kernel_rfl) (by kernel_rfl) (fun _ _ _ h => h) (Or.inl ⟨by rfl, ?_⟩) (by assumption) ?_
        rotate_left
        · (intro w' hSw; obtain ⟨s0, s4, s5, s6⟩ := hSw; go_simp; try (with_reducible rfl))
        simp only [Act.put, List.setIfInBounds_toArray, List.set_cons_zero, List.set_cons_succ]
        refine wpAnyH_done (by kernel_rfl) ?_ _
        go_wp2_with fail
        go_ret
        refine ⟨?_, HB0.out.trans (HB1.out.mono (by omega))⟩
        have := Hn.out
        simp
        omega
    · have g2 : decide ((j.od : Int) < (j.stop : Int)) = true := decide_eq_true (by omega)
      have g2' : decide (j.od < j.stop) = true := decide_eq_true (by omega)
      go_wp2_with fail
      refine wp_region_held (S := mayS w.heap.size j.kind j.stop j.od ao n cap) (by kernel_rfl) ?_
      have hS0 : mayS w.heap.size j.kind j.stop j.od ao n cap w0.drew := ⟨q0, q4, q5, q6⟩
      change wpAnyH _ _ _ _ _ _ _ _ (World.drew _)
      refine wpAnyH_take (i := 0) (oi := ⟨some 8, _, _, _, _, _⟩) (v := ?_) rfl (by kernel_rfl) (by kernel_rfl) (by kernel_rfl) (fun _ _ _ h => h) (Or.inl ⟨by rfl, ?_⟩) (by assumption) ?_
      rotate_left
      · (intro w' hSw; obtain ⟨s0, s4, s5, s6⟩ := hSw; go_simp; try (with_reducible rfl))
      simp only [Act.put, List.setIfInBounds_toArray, List.set_cons_zero, List.set_cons_succ]
      refine wpAnyH_take (i := 1) (oi := ⟨some 9, _, _, _, _, _⟩) (v := ?_) rfl (by kernel_rfl) (by kernel_rfl) (by kernel_rfl) (fun _ _ _ h => h) (Or.inl ⟨by rfl, ?_⟩) (by assumption) ?_
      rotate_left
      · (intro w' hSw; obtain ⟨s0, s4, s5, s6⟩ := hSw; go_simp; try (with_reducible rfl))
      simp only [Act.put, List.setIfInBounds_toArray, List.set_cons_zero, List.set_cons_succ]
      refine wpAnyH_take (i := 2) (oi := ⟨some 10, _, _, _, _, _⟩) (v := ?_) rfl (by kernel_rfl) (by kernel_rfl) (by kernel_rfl) (fun _ _ _ h => h) (Or.inl ⟨by rfl, ?_⟩) (by assumption) ?_
      rotate_left
      · (intro w' hSw; obtain ⟨s0, s4, s5, s6⟩ := hSw; go_simp; try (with_reducible rfl))
      simp only [Act.put, List.setIfInBounds_toArray, List.set_cons_zero, List.set_cons_succ]
      refine wpAnyH_all (rs := [3]) (by kernel_rfl) (by simp) ?_
      intro i hi
      rw [List.mem_singleton] at hi
      subst hi
      refine wpOp_run (o := ⟨some 11, _, _, _, _, _⟩) rfl rfl fun K' hK => ?_
      go_simp
      refine (HK.out _).mono ?_
      rintro e w1 ⟨v1, rfl, hB1⟩
      have hB1' : Below (w.heap.size + 1) w0 w1 := ((ext_drew w0).mono (by omega)).trans (hB1.mono (by simp; omega))
      have hS1 : mayS w.heap.size j.kind j.stop j.od ao n cap w1 := ⟨(bcell' hB1' 0).trans q0, (bcell' hB1' 4).trans q4, (bcell' hB1' 5).trans q5, (bcell' hB1' 6).trans q6⟩
      have HB1 := Lib.hid hB1'
      clear hB1 hB1'
      refine hK _ _ ⟨hS1, ?_⟩
      refine wpAnyH_take (i := 4) (oi := ⟨some 12, _, _, _, _, _⟩) (v := ?_) rfl (by kernel_rfl) (by kernel_rfl) (by kernel_rfl) (fun _ _ _ h => h) (Or.inl ⟨by rfl, ?_⟩) (by assumption) ?_
      rotate_left
      · (intro w' hSw; obtain ⟨s0, s4, s5, s6⟩ := hSw; go_simp; try (with_reducible rfl))
      simp only [Act.put, List.setIfInBounds_toArray, List.set_cons_zero, List.set_cons_succ]
      refine wpAnyH_take (i := 5) (oi := ⟨some 13, _, _, _, _, _⟩) (v := ?_) rfl (by kernel_rfl) (by kernel_rfl) (by kernel_rfl) (fun _ _ _ h => h) (Or.inl ⟨by rfl, ?_⟩) (by assumption) ?_
      rotate_left
      · (intro w' hSw; obtain ⟨s0, s4, s5, s6⟩ := hSw; go_simp; try (with_reducible rfl))
      simp only [Act.put, List.setIfInBounds_toArray, List.set_cons_zero, List.set_cons_succ]
      refine wpAnyH_take (i := 6) (oi := ⟨some 14, _, _, _, _, _⟩) (v := ?_) rfl (by kernel_rfl) (by kernel_rfl) (by kernel_rfl) (fun _ _ _ h => h) (Or.inl ⟨by rfl, ?_⟩) (by assumption) ?_
      rotate_left
      · (intro w' hSw; obtain ⟨s0, s4, s5, s6⟩ := hSw; go_simp; try (with_reducible rfl))
      simp only [Act.put, List.setIfInBounds_toArray, List.set_cons_zero, List.set_cons_succ]
      refine wpAnyH_take (i := 7) (oi := ⟨some 15, _, _, _, _, _⟩) (v := ?_) rfl (by kernel_rfl) (by kernel_rfl) (by kernel_rfl) (fun _ _ _ h => h) (Or.inl ⟨by rfl, ?_⟩) (by assumption) ?_
      rotate_left
      · (intro w' hSw; obtain ⟨s0, s4, s5, s6⟩ := hSw; go_simp; try (with_reducible rfl))
      simp only [Act.put, List.setIfInBounds_toArray, List.set_cons_zero, List.set_cons_succ]
      refine wpAnyH_take (i := 8) (oi := ⟨some 16, _, _, _, _, _⟩) (v := ?_) rfl (by kernel_rfl) (by kernel_rfl) (by kernel_rfl) (fun _ _ _ h => h) (Or.inl ⟨by rfl, ?_⟩) (by assumption) ?_
      rotate_left
      · (intro w' hSw; obtain ⟨s0, s4, s5, s6⟩ := hSw; go_simp; try (with_reducible rfl))
      simp only [Act.put, List.setIfInBounds_toArray, List.set_cons_zero, List.set_cons_succ]
      refine wpAnyH_take (i := 9) (oi := ⟨some 17, _, _, _, _, _⟩) (v := ?_) rfl (by kernel_rfl) (by kernel_rfl) (by kernel_rfl) (fun _ _ _ h => h) (Or.inl ⟨by rfl, ?_⟩) (by assumption) ?_
      rotate_left
      · (intro w' hSw; obtain ⟨s0, s4, s5, s6⟩ := hSw; go_simp; try (with_reducible rfl))
      simp only [Act.put, List.setIfInBounds_toArray, List.set_cons_zero, List.set_cons_succ]
      refine wpAnyH_take (i := 10) (oi := ⟨some 18, _, _, _, _, _⟩) (v := ?_) rfl (by kernel_rfl) (by kernel_rfl) (by kernel_rfl) (fun _ _ _ h => h) (Or.inl ⟨by rfl, ?_⟩) (by assumption) ?_
      rotate_left
      · (intro w' hSw; obtain ⟨s0, s4, s5, s6⟩ := hSw; go_simp; try (with_reducible rfl))
      simp only [Act.put, List.setIfInBounds_toArray, List.set_cons_zero, List.set_cons_succ]
      refine wpAnyH_take (i := 11) (oi := ⟨some 19, _, _, _, _, _⟩) (v := ?_) rfl (by kernel_rfl) (by kernel_rfl) (by kernel_rfl) (fun _ _ _ h => h) (Or.inl ⟨by rfl, ?_⟩) (by assumption) ?_
      rotate_left
      · (intro w' hSw; obtain ⟨s0, s4, s5, s6⟩ := hSw; go_simp; try (with_reducible rfl))
      simp only [Act.put, List.setIfInBounds_toArray, List.set_cons_zero, List.set_cons_succ]
      refine wpAnyH_take (i := 12) (oi := ⟨some 20, _, _, _, _, _⟩) (v := ?_) rfl (by kernel_rfl) (by kernel_rfl) (by kernel_rfl) (fun _ _ _ h => h) (Or.inl ⟨by rfl, ?_⟩) (by assumption) ?_
      rotate_left
      · (intro w' hSw; obtain ⟨s0, s4, s5, s6⟩ := hSw; go_simp; try (with_reducible rfl))
      simp only [Act.put, List.setIfInBounds_toArray, List.set_cons_zero, List.set_cons_succ]
      refine wpAnyH_take (i := 13) (oi := ⟨some 21, _, _, _, _, _⟩) (v := ?_) rfl (by kernel_rfl) (by kernel_rfl) (by kernel_rfl) (fun _ _ _ h => h) (Or.inl ⟨by rfl, ?_⟩) (by assumption) ?_
      rotate_left
      · (intro w' hSw; obtain ⟨s0, s4, s5, s6⟩ := hSw; go_simp; try (with_reducible rfl))
      simp only [Act.put, List.setIfInBounds_toArray, List.set_cons_zero, List.set_cons_succ]
      refine wpAnyH_take (i := 14) (oi := ⟨some 22, _, _, _, _, _⟩) (v := undef) rfl (by kernel_rfl) (by kernel_rfl) (by kernel_rfl) (fun _ _ _ h => h) (Or.inr ⟨by rfl, rfl⟩) (by assumption) ?_
      simp only [Act.put, List.setIfInBounds_toArray, List.set_cons_zero, List.set_cons_succ]
      refine wpAnyH_take (i := 15) (oi := ⟨some 23, _, _, _, _, _⟩) (v := undef) rfl (by kernel_rfl) (by kernel_rfl) (by kernel_rfl) (fun _ _ _ h => h) (Or.inr ⟨by rfl, rfl⟩) (by assumption) ?_
      simp only [Act.put, List.setIfInBounds_toArray, List.set_cons_zero, List.set_cons_succ]
      refine wpAnyH_take (i := 16) (oi := ⟨some 24, _, _, _, _, _⟩) (v := undef) rfl (by kernel_rfl) (by kernel_rfl) (by kernel_rfl) (fun _ _ _ h => h) (Or.inr ⟨by rfl, rfl⟩) (by assumption) ?_
      simp only [Act.put, List.setIfInBounds_toArray, List.set_cons_zero, List.set_cons_succ]
      refine wpAnyH_take (i := 17) (oi := ⟨some 25, _, _, _, _, _⟩) (v := undef) rfl (by kernel_rfl) (by kernel_rfl) (by kernel_rfl) (fun _ _ _ h => h) (Or.inr ⟨by rfl, rfl⟩) (by assumption) ?_
      simp only [Act.put, List.setIfInBounds_toArray, List.set_cons_zero, List.set_cons_succ]
      refine wpAnyH_take (i := 18) (oi := ⟨some 26, _, _, _, _, _⟩) (v := ?_) rfl (by kernel_rfl) (by kernel_rfl) (by kernel_rfl) (fun _ _ _ h => h) (Or.inl ⟨by rfl, ?_⟩) (by assumption) ?_
      rotate_left
      · (intro w' hSw; obtain ⟨s0, s4, s5, s6⟩ := hSw; go_simp; try (with_reducible rfl))
      simp only [Act.put, List.setIfInBounds_toArray, List.set_cons_zero, List.set_cons_succ]
      refine wpAnyH_take (i := 19) (oi := ⟨some 27, _, _, _, _, _⟩) (v := ?_) rfl (by kernel_rfl) (by kernel_rfl) (by kernel_rfl) (fun _ _ _ h => h) (Or.inl ⟨by rfl, ?_⟩) (by assumption) ?_
      rotate_left
      · (intro w' hSw; obtain ⟨s0, s4, s5, s6⟩ := hSw; go_simp; try (with_reducible rfl))
      simp only [Act.put, List.setIfInBounds_toArray, List.set_cons_zero, List.set_cons_succ]
      refine wpAnyH_take (i := 20) (oi := ⟨some 28, _, _, _, _, _⟩) (v := undef) rfl (by kernel_rfl) (by kernel_rfl) (by kernel_rfl) (fun _ _ _ h => h) (Or.inr ⟨by rfl, rfl⟩) (by assumption) ?_
      simp only [Act.put, List.setIfInBounds_toArray, List.set_cons_zero, List.set_cons_succ]
      refine wpAnyH_take (i := 21) (oi := ⟨some 29, _, _, _, _, _⟩) (v := undef) rfl (by kernel_rfl) (by kernel_rfl) (by kernel_rfl) (fun _ _ _ h => h) (Or.inr ⟨by rfl, rfl⟩) (by assumption) ?_
      simp only [Act.put, List.setIfInBounds_toArray, List.set_cons_zero, List.set_cons_succ]
      refine wpAnyH_take (i := 22) (oi := ⟨some 30, _, _, _, _, _⟩) (v := undef) rfl (by kernel_rfl) (by kernel_rfl) (by kernel_rfl) (fun _ _ _ h => h) (Or.inr ⟨by rfl, rfl⟩) (by assumption) ?_
      simp only [Act.put, List.setIfInBounds_toArray, List.set_cons_zero, List.set_cons_succ]
      refine wpAnyH_take (i := 23) (oi := ⟨some 31, _, _, _, _, _⟩) (v := undef) rfl (by kernel_rfl) (by kernel_rfl) (by kernel_rfl) (fun _ _ _ h => h) (Or.inr ⟨by rfl, rfl⟩) (by assumption) ?_
      simp only [Act.put, List.setIfInBounds_toArray, List.set_cons_zero, List.set_cons_succ]
      refine wpAnyH_take (i := 24) (oi := ⟨some 32, _, _, _, _, _⟩) (v := ?_) rfl (by kernel_rfl) (by kernel_rfl) (by kernel_rfl) (fun _ _ _ h => h) (Or.inl ⟨by rfl, ?_⟩) (by assumption) ?_
      rotate_left
      · (intro w' hSw; obtain ⟨s0, s4, s5, s6⟩ := hSw; go_simp; try (with_reducible rfl))
      simp only [Act.put, List.setIfInBounds_toArray, List.set_cons_zero, List.set_cons_succ]
      refine wpAnyH_done (by kernel_rfl) ?_ _
      go_wp2_with fail
      go_ret
      refine ⟨?_, HB0.out.trans (HB1.out.mono (by omega))⟩
      have := Hn.out
      simp
      omega
  · have g1 : decide (3 ≤ (j.kind : Int)) = true := decide_eq_true (by omega)
    have g1' : decide (3 ≤ j.kind) = true := decide_eq_true (by omega)
    go_wp2_with fail
    refine wp_region_held (S := mayS w.heap.size j.kind j.stop j.od ao n cap) (by kernel_rfl) ?_
    have hS0 : mayS w.heap.size j.kind j.stop j.od ao n cap w0.drew := ⟨q0, q4, q5, q6⟩
    change wpAnyH _ _ _ _ _ _ _ _ (World.drew _)
    refine wpAnyH_take (i := 0) (oi := ⟨some 8, _, _, _, _, _⟩) (v := ?_) rfl (by kernel_rfl) (by kernel_rfl) (by kernel_rfl) (fun _ _ _ h => h) (Or.inl ⟨by rfl, ?_⟩) (by assumption) ?_
    rotate_left
    · (intro w' hSw; obtain ⟨s0, s4, s5, s6⟩ := hSw; go_simp; try (with_reducible rfl))
    simp only [Act.put, List.setIfInBounds_toArray, List.set_cons_zero, List.set_cons_succ]
    refine wpAnyH_take (i := 1) (oi := ⟨some 9, _, _, _, _, _⟩) (v := ?_) rfl (by kernel_rfl) (by kernel_rfl) (by kernel_rfl) (fun _ _ _ h => h) (Or.inl ⟨by rfl, ?_⟩) (by assumption) ?_
    rotate_left
    · (intro w' hSw; obtain ⟨s0, s4, s5, s6⟩ := hSw; go_simp; try (with_reducible rfl))
    simp only [Act.put, List.setIfInBounds_toArray, List.set_cons_zero, List.set_cons_succ]
    refine wpAnyH_take (i := 2) (oi := ⟨some 10, _, _, _, _, _⟩) (v := ?_) rfl (by kernel_rfl) (by kernel_rfl) (by kernel_rfl) (fun _ _ _ h => h) (Or.inl ⟨by rfl, ?_⟩) (by assumption) ?_
    rotate_left
    · (intro w' hSw; obtain ⟨s0, s4, s5, s6⟩ := hSw; go_simp; try (with_reducible rfl))
    simp only [Act.put, List.setIfInBounds_toArray, List.set_cons_zero, List.set_cons_succ]
    refine wpAnyH_all (rs := [3]) (by kernel_rfl) (by simp) ?_
    intro i hi
    rw [List.mem_singleton] at hi
    subst hi
    refine wpOp_run (o := ⟨some 11, _, _, _, _, _⟩) rfl rfl fun K' hK => ?_
    go_simp
    refine (HK.out _).mono ?_
    rintro e w1 ⟨v1, rfl, hB1⟩
    have hB1' : Below (w.heap.size + 1) w0 w1 := ((ext_drew w0).mono (by omega)).trans (hB1.mono (by simp; omega))
    have hS1 : mayS w.heap.size j.kind j.stop j.od ao n cap w1 := ⟨(bcell' hB1' 0).trans q0, (bcell' hB1' 4).trans q4, (bcell' hB1' 5).trans q5, (bcell' hB1' 6).trans q6⟩
    have HB1 := Lib.hid hB1'
    clear hB1 hB1'
    refine hK _ _ ⟨hS1, ?_⟩
    refine wpAnyH_take (i := 4) (oi := ⟨some 12, _, _, _, _, _⟩) (v := ?_) rfl (by kernel_rfl) (by kernel_rfl) (by kernel_rfl) (fun _ _ _ h => h) (Or.inl ⟨by rfl, ?_⟩) (by assumption) ?_
    rotate_left
    · (intro w' hSw; obtain ⟨s0, s4, s5, s6⟩ := hSw; go_simp; try (with_reducible rfl))
    simp only [Act.put, List.setIfInBounds_toArray, List.set_cons_zero, List.set_cons_succ]
    refine wpAnyH_take (i := 5) (oi := ⟨some 13, _, _, _, _, _⟩) (v := ?_) rfl (by kernel_rfl) (by kernel_rfl) (by kernel_rfl) (fun _ _ _ h => h) (Or.inl ⟨by rfl, ?_⟩) (by assumption) ?_
    rotate_left
    · (intro w' hSw; obtain ⟨s0, s4, s5, s6⟩ := hSw; go_simp; try (with_reducible rfl))
    simp only [Act.put, List.setIfInBounds_toArray, List.set_cons_zero, List.set_cons_succ]
    refine wpAnyH_take (i := 6) (oi := ⟨some 14, _, _, _, _, _⟩) (v := ?_) rfl (by kernel_rfl) (by kernel_rfl) (by kernel_rfl) (fun _ _ _ h => h) (Or.inl ⟨by rfl, ?_⟩) (by assumption) ?_
    rotate_left
    · (intro w' hSw; obtain ⟨s0, s4, s5, s6⟩ := hSw; go_simp; try (with_reducible rfl))
    simp only [Act.put, List.setIfInBounds_toArray, List.set_cons_zero, List.set_cons_succ]
    refine wpAnyH_take (i := 7) (oi := ⟨some 15, _, _, _, _, _⟩) (v := undef) rfl (by kernel_rfl) (by kernel_rfl) (by kernel_rfl) (fun _ _ _ h => h) (Or.inr ⟨by rfl, rfl⟩) (by assumption) ?_
    simp only [Act.put, List.setIfInBounds_toArray, List.set_cons_zero, List.set_cons_succ]
    refine wpAnyH_take (i := 8) (oi := ⟨some 16, _, _, _, _, _⟩) (v := undef) rfl (by kernel_rfl) (by kernel_rfl) (by kernel_rfl) (fun _ _ _ h => h) (Or.inr ⟨by rfl, rfl⟩) (by assumption) ?_
    simp only [Act.put, List.setIfInBounds_toArray, List.set_cons_zero, List.set_cons_succ]
    refine wpAnyH_take (i := 9) (oi := ⟨some 17, _, _, _, _, _⟩) (v := undef) rfl (by kernel_rfl) (by kernel_rfl) (by kernel_rfl) (fun _ _ _ h => h) (Or.inr ⟨by rfl, rfl⟩) (by assumption) ?_
    simp only [Act.put, List.setIfInBounds_toArray, List.set_cons_zero, List.set_cons_succ]
    refine wpAnyH_take (i := 10) (oi := ⟨some 18, _, _, _, _, _⟩) (v := undef) rfl (by kernel_rfl) (by kernel_rfl) (by kernel_rfl) (fun _ _ _ h => h) (Or.inr ⟨by rfl, rfl⟩) (by assumption) ?_
    simp only [Act.put, List.setIfInBounds_toArray, List.set_cons_zero, List.set_cons_succ]
    refine wpAnyH_take (i := 11) (oi := ⟨some 19, _, _, _, _, _⟩) (v := undef) rfl (by kernel_rfl) (by kernel_rfl) (by kernel_rfl) (fun _ _ _ h => h) (Or.inr ⟨by rfl, rfl⟩) (by assumption) ?_
    simp only [Act.put, List.setIfInBounds_toArray, List.set_cons_zero, List.set_cons_succ]
    refine wpAnyH_take (i := 12) (oi := ⟨some 20, _, _, _, _, _⟩) (v := ?_) rfl (by kernel_rfl) (by kernel_rfl) (by kernel_rfl) (fun _ _ _ h => h) (Or.inl ⟨by rfl, ?_⟩) (by assumption) ?_
    rotate_left
    · (intro w' hSw; obtain ⟨s0, s4, s5, s6⟩ := hSw; go_simp; try (with_reducible rfl))
    simp only [Act.put, List.setIfInBounds_toArray, List.set_cons_zero, List.set_cons_succ]
    refine wpAnyH_take (i := 13) (oi := ⟨some 21, _, _, _, _, _⟩) (v := ?_) rfl (by kernel_rfl) (by kernel_rfl) (by kernel_rfl) (fun _ _ _ h => h) (Or.inl ⟨by rfl, ?_⟩) (by assumption) ?_
    rotate_left
    · (intro w' hSw; obtain ⟨s0, s4, s5, s6⟩ := hSw; go_simp; try (with_reducible rfl))
    simp only [Act.put, List.setIfInBounds_toArray, List.set_cons_zero, List.set_cons_succ]
    refine wpAnyH_take (i := 14) (oi := ⟨some 22, _, _, _, _, _⟩) (v := undef) rfl (by kernel_rfl) (by kernel_rfl) (by kernel_rfl) (fun _ _ _ h => h) (Or.inr ⟨by rfl, rfl⟩) (by assumption) ?_
    simp only [Act.put, List.setIfInBounds_toArray, List.set_cons_zero, List.set_cons_succ]
    refine wpAnyH_take (i := 15) (oi := ⟨some 23, _, _, _, _, _⟩) (v := undef) rfl (by kernel_rfl) (by kernel_rfl) (by kernel_rfl) (fun _ _ _ h => h) (Or.inr ⟨by rfl, rfl⟩) (by assumption) ?_
    simp only [Act.put, List.setIfInBounds_toArray, List.set_cons_zero, List.set_cons_succ]
    refine wpAnyH_take (i := 16) (oi := ⟨some 24, _, _, _, _, _⟩) (v := undef) rfl (by kernel_rfl) (by kernel_rfl) (by kernel_rfl) (fun _ _ _ h => h) (Or.inr ⟨by rfl, rfl⟩) (by assumption) ?_
    simp only [Act.put, List.setIfInBounds_toArray, List.set_cons_zero, List.set_cons_succ]
    refine wpAnyH_take (i := 17) (oi := ⟨some 25, _, _, _, _, _⟩) (v := undef) rfl (by kernel_rfl) (by kernel_rfl) (by kernel_rfl) (fun _ _ _ h => h) (Or.inr ⟨by rfl, rfl⟩) (by assumption) ?_
    simp only [Act.put, List.setIfInBounds_toArray, List.set_cons_zero, List.set_cons_succ]
    refine wpAnyH_take (i := 18) (oi := ⟨some 26, _, _, _, _, _⟩) (v := ?_) rfl (by kernel_rfl) (by kernel_rfl) (by kernel_rfl) (fun _ _ _ h => h) (Or.inl ⟨by rfl, ?_⟩) (by assumption) ?_
    rotate_left
    · (intro w' hSw; obtain ⟨s0, s4, s5, s6⟩ := hSw; go_simp; try (with_reducible rfl))
    simp only [Act.put, List.setIfInBounds_toArray, List.set_cons_zero, List.set_cons_succ]
    refine wpAnyH_take (i := 19) (oi := ⟨some 27, _, _, _, _, _⟩) (v := ?_) rfl (by kernel_rfl) (by kernel_rfl) (by kernel_rfl) (fun _ _ _ h => h) (Or.inl ⟨by rfl, ?_⟩) (by assumption) ?_
    rotate_left
    · (intro w' hSw; obtain ⟨s0, s4, s5, s6⟩ := hSw; go_simp; try (with_reducible rfl))
    simp only [Act.put, List.setIfInBounds_toArray, List.set_cons_zero, List.set_cons_succ]
    refine wpAnyH_take (i := 20) (oi := ⟨some 28, _, _, _, _, _⟩) (v := undef) rfl (by kernel_rfl) (by kernel_rfl) (by kernel_rfl) (fun _ _ _ h => h) (Or.inr ⟨by rfl, rfl⟩) (by assumption) ?_
    simp only [Act.put, List.setIfInBounds_toArray, List.set_cons_zero, List.set_cons_succ]
    refine wpAnyH_take (i := 21) (oi := ⟨some 29, _, _, _, _, _⟩) (v := undef) rfl (by kernel_rfl) (by kernel_rfl) (by kernel_rfl) (fun _ _ _ h => h) (Or.inr ⟨by rfl, rfl⟩) (by assumption) ?_
    simp only [Act.put, List.setIfInBounds_toArray, List.set_cons_zero, List.set_cons_succ]
    refine wpAnyH_take (i := 22) (oi := ⟨some 30, _, _, _, _, _⟩) (v := undef) rfl (by kernel_rfl) (by kernel_rfl) (by kernel_rfl) (fun _ _ _ h => h) (Or.inr ⟨by rfl, rfl⟩) (by assumption) ?_
    simp only [Act.put, List.setIfInBounds_toArray, List.set_cons_zero, List.set_cons_succ]
    refine wpAnyH_take (i := 23) (oi := ⟨some 31, _, _, _, _, _⟩) (v := undef) rfl (by kernel_rfl) (by kernel_rfl) (by kernel_rfl) (fun _ _ _ h => h) (Or.inr ⟨by rfl, rfl⟩) (by assumption) ?_
    simp only [Act.put, List.setIfInBounds_toArray, List.set_cons_zero, List.set_cons_succ]
    refine wpAnyH_take (i := 24) (oi := ⟨some 32, _, _, _, _, _⟩) (v := ?_) rfl (by kernel_rfl) (by kernel_rfl) (by kernel_rfl) (fun _ _ _ h => h) (Or.inl ⟨by rfl, ?_⟩) (by assumption) ?_
    rotate_left
    · (intro w' hSw; obtain ⟨s0, s4, s5, s6⟩ := hSw; go_simp; try (with_reducible rfl))
    simp only [Act.put, List.setIfInBounds_toArray, List.set_cons_zero, List.set_cons_succ]
    refine wpAnyH_done (by kernel_rfl) ?_ _
    go_wp2_with fail
    go_ret
    refine ⟨?_, HB0.out.trans (HB1.out.mono (by omega))⟩
    have := Hn.out
    simp
    omega
end Go.Proofs.Ytmflopeedofkhaa

namespace Go.Proofs.Ytmflopeedofkhaa
set_option linter.unusedSimpArgs false
set_option linter.unusedVariables false
set_option maxRecDepth 100000
open Go.RowKit

set_option maxHeartbeats 1600000 in
theorem in_any (n a b : Nat) (w : World) : Calls Try.prog 32 #[.int .u32 (n : Nat), .int .u32 (a : Nat), .int .u32 (b : Nat)] w fun e w' => e = .returned (.bool (inB n a b)) ∧ w' = w := by
  by_cases h1 : a ≤ n
  · have g1 : decide ((a : Int) ≤ (n : Int)) = true := decide_eq_true (by omega)
    have g1' : decide (a ≤ n) = true := decide_eq_true h1
    go_enter Try.func32, Try.ntmps32
    go_wp2_with fail
    go_ret
    exact ⟨by simp [inB, h1], rfl⟩
  · have g1 : decide ((a : Int) ≤ (n : Int)) = false := decide_eq_false (by omega)
    have g1' : decide (a ≤ n) = false := decide_eq_false h1
    go_enter Try.func32, Try.ntmps32
    go_wp2_with fail
    go_ret
    exact ⟨by simp [inB, h1], rfl⟩
def srcI (l : List Nat) (w : World) (i : Value) (wr : World) : Prop := ∃ k m : Nat, k ≤ l.length ∧ i = .int .i64 (k : Nat) ∧ (∀ a b, (h : b < l.length) → (h' : a < b) → b < k → l[a] ≠ l[b]) ∧ wr = w.drewN m
def srcK (l : List Nat) (w : World) (k : Nat) (hk : k < l.length) (i : Value) (wr : World) : Prop := ∃ q m : Nat, ∃ hq : q ≤ k, i = .int .i64 (q : Nat) ∧ (∀ a, (h : a < q) → l[a] ≠ l[k]) ∧ wr = w.drewN m
set_option maxHeartbeats 3200000 in
theorem srcs_any (l : List Nat) (ao : Option Addr) (cap : Nat) (w : World) (hl : l.length ≤ 1000000) (hrd : Rd w ao l.length (u32s l)) :
    Calls Try.prog 33 #[.slice ao l.length cap] w fun e w' => e = .returned (.bool (srcB l)) ∧ ∃ m, w' = w.drewN m := by
  by_cases h1 : 1 ≤ l.length
  · have g1 : decide ((l.length : Int) < 1) = false := decide_eq_false (by omega)
    by_cases h2 : l.length ≤ 256
    · have g2 : decide (256 < (l.length : Int)) = false := decide_eq_false (by omega)
      obtain ⟨b, off, rfl, hb, hc⟩ := hrd.pos h1
      have Hc := Lib.hid hc
      clear hc hrd
      go_enter Try.func33, Try.ntmps33
      go_wp2_with fail
      go_loopw [3, 15] (fun _ i wr => srcI l w i wr) (fun _ i _ => l.length - (intOf i).toNat)
      case atStart => exact ⟨0, 0, Nat.zero_le _, rfl, fun a b h h' hk => by omega, rfl⟩
      case round =>
        obtain ⟨k, m, hk, rfl, hne, rfl⟩ := hrel
        have Hne := Lib.hid hne
        clear hne
        by_cases hlt : k < l.length
        · have hir : (k : Int) < (l.length : Int) := by omega
          go_wp2_with fail
          go_loopw [4] (fun i wr => srcK l w k hlt i wr) (fun i _ => k - (intOf i).toNat)
          case atStart => exact ⟨0, m, Nat.zero_le _, rfl, fun a h => by omega, rfl⟩
          case round =>
            obtain ⟨q, m2, hq, rfl, hna, rfl⟩ := hrel
            have Hna := Lib.hid hna
            clear hna
            by_cases hqk : q < k
            · have hir2 : (q : Int) < (k : Int) := by omega
              have hql : q < l.length := by omega
              have hir3 : (q : Int) < (l.length : Int) := by omega
              have c1 := Hc.out k hlt
              have c2 := Hc.out q hql
              simp only [u32s, List.getElem?_map, List.getElem?_eq_getElem hlt, List.getElem?_eq_getElem hql, Option.map_some] at c1 c2
              by_cases he : l[q] = l[k]
              · have he' : ((l[q] : Int) == (l[k] : Int)) = true := by rw [he]; simp
                go_wp2_with fail
                go_quiet (fail)
                go_wp2_with fail
                go_ret
                refine ⟨?_, m2 + nq, by rw [World.drewN_drewN]⟩
                have hnd : ¬ l.Nodup := fun h => List.pairwise_iff_getElem.1 h q k hql hlt hqk he
                simp [srcB, hnd]
              · have he' : ((l[q] : Int) == (l[k] : Int)) = false := beq_eq_false_iff_ne.2 (by omega)
                generalize hx : l[k] = x at c1 he he'
                generalize hy : l[q] = y at c2 he he'
                have Hx := Lib.hid hx
                have Hy := Lib.hid hy
                have He := Lib.hid he
                clear hx hy he
                go_wp2_with fail
                go_quiet (fail)
                go_wp2_with fail
                go_roundw
                case rel =>
                  refine ⟨q + 1, _, by omega, by go_num, fun a h => ?_, rfl⟩
                  by_cases haq : a < q
                  · exact Hna.out a haq
                  · obtain rfl : a = q := by omega
                    rw [Hx.out, Hy.out]; exact He.out
                case measure => simp [intOf]; omega
            · obtain rfl : q = k := by omega
              go_wp2_with fail
              go_roundw
              case rel =>
                refine ⟨q + 1, m2, by omega, by go_num, fun a b h h' hk' => ?_, rfl⟩
                by_cases hbq : b < q
                · exact Hne.out a b h h' hbq
                · obtain rfl : b = q := by omega
                  exact Hna.out a h'
              case measure => simp [intOf]; omega
        · obtain rfl : k = l.length := by omega
          go_wp2_with fail
          go_ret
          refine ⟨?_, m, rfl⟩
          have hnd : l.Nodup := List.pairwise_iff_getElem.2 fun a b ha hb' hab => Hne.out a b hb' hab hb'
          simp [srcB, hnd, h1, h2]
    · have g2 : decide (256 < (l.length : Int)) = true := decide_eq_true (by omega)
      go_enter Try.func33, Try.ntmps33
      go_wp2_with fail
      go_ret
      exact ⟨by simp [srcB]; omega, 0, rfl⟩
  · have g1 : decide ((l.length : Int) < 1) = true := decide_eq_true (by omega)
    go_enter Try.func33, Try.ntmps33
    go_wp2_with fail
    go_ret
    exact ⟨by simp [srcB]; omega, 0, rfl⟩
set_option maxHeartbeats 6400000 in
theorem rmay_any (j : JobD) (hj : JobOk j) (ao : Option Addr) (cap : Nat) (w : World) (hl : j.src.length ≤ 1000000) (hsrc : Rd w ao j.src.length (u32s j.src)) :
    Calls Try.prog 13 #[.agg (jobCs j ao cap)] w fun e w' => e = .returned (.bool (mayJ j)) ∧ Below w.heap.size w w' := by
  have Hs := Lib.hid (fun W (h : Below w.heap.size w W) => srcs_any j.src ao cap W hl (hsrc.ext h))
  have Hj := Lib.hid hj
  clear hj hsrc
  go_enter Try.func13, Try.ntmps13
  go_upto_region 1 with fail
  obtain ⟨w0, hw0⟩ : ∃ w0, w0 = w.alloc (.cells (jobCs j ao cap) 30) := ⟨_, rfl⟩
  rw [← hw0]
  have hcell : ∀ c v, (jobCs j ao cap)[c]? = some v → w0.cell? ⟨w.heap.size, c, none⟩ = some v := fun c v h => by
    rw [hw0, World.cell?_alloc_new]; exact h
  have q0 : w0.cell? ⟨w.heap.size, 0, none⟩ = some (.int .u8 (j.kind : Nat)) := hcell 0 _ rfl
  have q2 : w0.cell? ⟨w.heap.size, 2, none⟩ = some (.int .u32 (j.length : Nat)) := hcell 2 _ rfl
  have q3 : w0.cell? ⟨w.heap.size, 3, none⟩ = some (.int .u32 (j.walks : Nat)) := hcell 3 _ rfl
  have q5 : w0.cell? ⟨w.heap.size, 5, none⟩ = some (.int .u32 (j.stop : Nat)) := hcell 5 _ rfl
  have q6 : w0.cell? ⟨w.heap.size, 6, none⟩ = some (.int .u32 (j.od : Nat)) := hcell 6 _ rfl
  have q7 : w0.cell? ⟨w.heap.size, 7, none⟩ = some (.int .u32 (j.p : Nat)) := hcell 7 _ rfl
  have q8 : w0.cell? ⟨w.heap.size, 8, none⟩ = some (.int .u32 (j.q : Nat)) := hcell 8 _ rfl
  have q9 : w0.cell? ⟨w.heap.size, 9, none⟩ = some (.int .u32 (j.tries : Nat)) := hcell 9 _ rfl
  have q10 : w0.cell? ⟨w.heap.size, 10, none⟩ = some (.int .u32 (j.best : Nat)) := hcell 10 _ rfl
  have q11 : w0.cell? ⟨w.heap.size, 11, none⟩ = some (.int .u32 (j.bsh : Nat)) := hcell 11 _ rfl
  have q12 : w0.cell? ⟨w.heap.size, 12, none⟩ = some (.int .u32 (j.bro : Nat)) := hcell 12 _ rfl
  have q13 : w0.cell? ⟨w.heap.size, 13, none⟩ = some (.int .u32 (j.bpo : Nat)) := hcell 13 _ rfl
  have q14 : w0.cell? ⟨w.heap.size, 14, none⟩ = some (.int .u32 (j.bso : Nat)) := hcell 14 _ rfl
  obtain ⟨n, hn⟩ : ∃ n, n = j.src.length := ⟨_, rfl⟩
  have q4 : w0.cell? ⟨w.heap.size, 4, none⟩ = some (.slice ao n cap) := by rw [hn]; exact hcell 4 _ rfl
  rw [← hn] at Hs
  have HB0 := Lib.hid (show Below w.heap.size w w0 by rw [hw0]; exact ext_alloc _ _)
  have Hn := Lib.hid hn
  clear hw0 hcell hn
  have hjk := Hj.out.kind
  go_cut [3] (fun v wx => v = .bool (walkB j) ∧ wx = w0)
  case first =>
    go_wp2_with (go_at_call 32; refine (in_any _ _ _ _).mono ?_; rintro e w' ⟨rfl, rfl⟩)
    all_goals go_meet
    all_goals (refine ⟨?_, rfl⟩; simp [walkB, *]; try omega)
  case rest =>
    obtain ⟨rfl, hwx⟩ := hcut
    rw [hwx]
    clear hwx
    go_upto_region 2 with fail
    go_cut [4] (fun v wx => v = .bool (secB j) ∧ wx = w0)
    case first =>
      go_wp2_with (go_at_call 32; refine (in_any _ _ _ _).mono ?_; rintro e w' ⟨rfl, rfl⟩)
      all_goals go_meet
      all_goals (refine ⟨?_, rfl⟩; simp [secB, *]; try omega)
    case rest =>
      obtain ⟨rfl, hwx⟩ := hcut
      rw [hwx]
      clear hwx
      go_upto_region 3 with fail
      go_cut [5] (fun v wx => v = .bool (budB j) ∧ wx = w0)
      case first =>
        go_wp2_with (go_at_call 32; refine (in_any _ _ _ _).mono ?_; rintro e w' ⟨rfl, rfl⟩)
        all_goals go_meet
        all_goals (refine ⟨?_, rfl⟩; simp [budB, *]; try omega)
      case rest =>
        obtain ⟨rfl, hwx⟩ := hcut
        rw [hwx]
        clear hwx
        go_wp2_with (go_at_call 33; refine (Hs.out _ HB0.out).mono ?_; rintro e w1 ⟨rfl, mq, hw1⟩; have HW1 := Lib.hid hw1; clear hw1)
        all_goals go_ret
        all_goals (refine ⟨by simp [mayJ, *], ?_⟩; first | exact HB0.out | (rw [HW1.out]; exact HB0.out.trans ((ext_drewN _ _).mono HB0.out.size)))
end Go.Proofs.Ytmflopeedofkhaa

namespace Go.Proofs.Ytmflopeedofkhaa
set_option linter.unusedSimpArgs false
set_option linter.unusedVariables false
set_option maxRecDepth 100000
open Go.RowKit

theorem wrap32_small (p : Nat) (h : p ≤ 16777216) : IntKind.u32.wrap (p : Int) = (p : Int) := by simp [IntKind.wrap, IntKind.bits, IntKind.signed]; omega
def walkV (j : JobD) : Value := .int .u32 (walkersJ j : Nat)
set_option maxHeartbeats 1600000 in
theorem jwalkers_any (j : JobD) (hj : JobOk j) (ao : Option Addr) (cap : Nat) (w : World) (hl : j.src.length ≤ 1000000) (hsrc : Rd w ao j.src.length (u32s j.src)) :
    Calls Try.prog 17 #[.agg (jobCs j ao cap)] w (RetB (walkV j) w) := by
  have HM := Lib.hid (fun W (h : Below w.heap.size w W) => may_any j hj ao cap W (hsrc.ext h))
  have hk := hj.walks
  have HLe := Lib.hid (walkersJ_le (j := j))
  clear hj hsrc
  cases hm : mayJ j with
  | false =>
    have hv : walkV j = .int .u32 0 := by simp [walkV, walkersJ, hm]
    rw [hm] at HM
    clear hm
    go_enter Try.func17, Try.ntmps17
    go_wp2_with (first | (refine wpList_load_row rfl _ _ rfl w.heap.size rfl 30 (jobCs j ao cap) (0, 0) _ (heap_alloc_new w _) Try.underlying30 rfl (show _ = some 15 by kernel_rfl) ?_) | (go_at_call 12; refine (HM.out _ (ext_alloc w _)).mono ?_; rintro e w1 ⟨rfl, hB1⟩; have HB1 := Lib.hid hB1; clear hB1))
    go_ret
    exact ⟨by rw [hv]; rfl, (ext_alloc w _).trans (HB1.out.mono (by simp))⟩
  | true =>
    have hp := HLe.out hm
    have hv : walkV j = .int .u32 (j.src.length * j.walks : Nat) := by simp [walkV, walkersJ, hm]
    rw [hm] at HM
    have Hv := Lib.hid hv
    clear hm HLe hv
    generalize hn : j.src.length = n at *
    have Hn := Lib.hid hn
    have hw1 : IntKind.u32.wrap (n : Int) = (n : Int) := by simp [IntKind.wrap, IntKind.bits, IntKind.signed]; omega
    have hw2 : IntKind.u32.wrap ((n : Int) * (j.walks : Int)) = (n : Int) * (j.walks : Int) := by
      have h0 : (n : Int) * (j.walks : Int) = ((n * j.walks : Nat) : Int) := by simp
      rw [h0]
      exact wrap32_small _ hp
    have HcS := Lib.hid (fun (w1 : World) (h : Below (w.alloc (.cells (jobCs j ao cap) 30)).heap.size (w.alloc (.cells (jobCs j ao cap) 30)) w1) (c : Nat) (v : Value) (hv : (jobCs j ao cap)[c]? = some v) => (show w1.cell? ⟨w.heap.size, c, none⟩ = some v from (bcell' (h.mono (by simp)) c).trans ((World.cell?_alloc_new _ _ _ _).trans hv)))
    have HC4 := Lib.hid (show (jobCs j ao cap)[4]? = some (.slice ao n cap) by rw [← hn]; rfl)
    clear hn
    go_enter Try.func17, Try.ntmps17
    go_wp2_with (first | (refine wpList_load_row rfl _ _ rfl w.heap.size rfl 30 (jobCs j ao cap) (0, 0) _ (heap_alloc_new w _) Try.underlying30 rfl (show _ = some 15 by kernel_rfl) ?_) | (go_at_call 12; refine (HM.out _ (ext_alloc w _)).mono ?_; rintro e w1 ⟨rfl, hB1⟩; have c3 : w1.cell? ⟨w.heap.size, 3, none⟩ = some (.int .u32 (j.walks : Nat)) := HcS.out w1 hB1 3 _ rfl; have c4 : w1.cell? ⟨w.heap.size, 4, none⟩ = some (.slice ao n cap) := HcS.out w1 hB1 4 _ HC4.out; have HB1 := Lib.hid hB1; clear hB1))
    go_ret
    refine ⟨?_, (ext_alloc w _).trans (HB1.out.mono (by simp))⟩
    rw [Hv.out]
    simp
set_option maxHeartbeats 1600000 in
theorem rwalkers_any (j : JobD) (hj : JobOk j) (ao : Option Addr) (cap : Nat) (w : World) (hl : j.src.length ≤ 1000000) (hsrc : Rd w ao j.src.length (u32s j.src)) :
    Calls Try.prog 18 #[.agg (jobCs j ao cap)] w (RetB (walkV j) w) := by
  have HM := Lib.hid (fun W (h : Below w.heap.size w W) => rmay_any j hj ao cap W hl (hsrc.ext h))
  have hk := hj.walks
  have HLe := Lib.hid (walkersJ_le (j := j))
  clear hj hsrc
  cases hm : mayJ j with
  | false =>
    have hv : walkV j = .int .u32 0 := by simp [walkV, walkersJ, hm]
    rw [hm] at HM
    clear hm
    go_enter Try.func18, Try.ntmps18
    go_wp2_with (first | (refine wpList_load_row rfl _ _ rfl w.heap.size rfl 30 (jobCs j ao cap) (0, 0) _ (heap_alloc_new w _) Try.underlying30 rfl (show _ = some 15 by kernel_rfl) ?_) | (go_at_call 13; refine (HM.out _ (ext_alloc w _)).mono ?_; rintro e w1 ⟨rfl, hB1⟩; have HB1 := Lib.hid hB1; clear hB1))
    go_ret
    exact ⟨by rw [hv]; rfl, (ext_alloc w _).trans (HB1.out.mono (by simp))⟩
  | true =>
    have hp := HLe.out hm
    have hv : walkV j = .int .u32 (j.src.length * j.walks : Nat) := by simp [walkV, walkersJ, hm]
    rw [hm] at HM
    have Hv := Lib.hid hv
    clear hm HLe hv
    generalize hn : j.src.length = n at *
    have Hn := Lib.hid hn
    have hw1 : IntKind.u32.wrap (n : Int) = (n : Int) := by simp [IntKind.wrap, IntKind.bits, IntKind.signed]; omega
    have hw2 : IntKind.u32.wrap ((n : Int) * (j.walks : Int)) = (n : Int) * (j.walks : Int) := by
      have h0 : (n : Int) * (j.walks : Int) = ((n * j.walks : Nat) : Int) := by simp
      rw [h0]
      exact wrap32_small _ hp
    have HcS := Lib.hid (fun (w1 : World) (h : Below (w.alloc (.cells (jobCs j ao cap) 30)).heap.size (w.alloc (.cells (jobCs j ao cap) 30)) w1) (c : Nat) (v : Value) (hv : (jobCs j ao cap)[c]? = some v) => (show w1.cell? ⟨w.heap.size, c, none⟩ = some v from (bcell' (h.mono (by simp)) c).trans ((World.cell?_alloc_new _ _ _ _).trans hv)))
    have HC4 := Lib.hid (show (jobCs j ao cap)[4]? = some (.slice ao n cap) by rw [← hn]; rfl)
    clear hn
    go_enter Try.func18, Try.ntmps18
    go_wp2_with (first | (refine wpList_load_row rfl _ _ rfl w.heap.size rfl 30 (jobCs j ao cap) (0, 0) _ (heap_alloc_new w _) Try.underlying30 rfl (show _ = some 15 by kernel_rfl) ?_) | (go_at_call 13; refine (HM.out _ (ext_alloc w _)).mono ?_; rintro e w1 ⟨rfl, hB1⟩; have c3 : w1.cell? ⟨w.heap.size, 3, none⟩ = some (.int .u32 (j.walks : Nat)) := HcS.out w1 hB1 3 _ rfl; have c4 : w1.cell? ⟨w.heap.size, 4, none⟩ = some (.slice ao n cap) := HcS.out w1 hB1 4 _ HC4.out; have HB1 := Lib.hid hB1; clear hB1))
    go_ret
    refine ⟨?_, (ext_alloc w _).trans (HB1.out.mono (by simp))⟩
    rw [Hv.out]
    simp

def srcH (j : JobD) (id : Nat) : Bool := decide (id < walkersJ j)
def srcN (j : JobD) (id : Nat) : Nat := if id < walkersJ j then id / j.walks else 0
theorem srcH_walks {j : JobD} {id : Nat} (h : id < walkersJ j) : mayJ j = true ∧ 0 < j.walks ∧ walkersJ j = j.src.length * j.walks := by
  unfold walkersJ at h ⊢
  cases hm : mayJ j with
  | false => rw [hm] at h; simp at h
  | true =>
    rw [hm] at h
    simp only [if_true] at h
    refine ⟨rfl, ?_, by simp⟩
    rcases Nat.eq_zero_or_pos j.walks with h0 | h0
    · rw [h0] at h; simp at h
    · exact h0
theorem srcN_lt {j : JobD} {id : Nat} (h : id < walkersJ j) : srcN j id < j.src.length := by
  obtain ⟨_, h1, h2⟩ := srcH_walks h
  unfold srcN
  rw [if_pos h]
  rw [h2] at h
  exact (Nat.div_lt_iff_lt_mul h1).2 h
def sourceV (j : JobD) (id : Nat) : Value := .tuple #[.int .i64 (srcN j id : Nat), .bool (srcH j id)]
theorem wrap32_div (a b : Nat) (h : a < 4294967296) : IntKind.u32.wrap ((a / b : Nat) : Int) = ((a / b : Nat) : Int) := by
  have := Nat.div_le_self a b
  generalize a / b = q at *
  simp [IntKind.wrap, IntKind.bits, IntKind.signed]; omega

/-- a walker -/
structure WkD where
  id : Nat
  step : Nat
  at_ : Nat
  prev : Nat
  next : Nat
  try_ : Nat
  state : Nat
deriving DecidableEq
structure WkOk (x : WkD) : Prop where
  id : x.id < 4294967296
  step : x.step < 4294967296
  at_ : x.at_ < 4294967296
  prev : x.prev < 4294967296
  next : x.next < 4294967296
  try_ : x.try_ < 4294967296
  state : x.state < 4294967296
def wkCs (x : WkD) : Array Value := #[.int .u32 (x.id : Nat), .int .u32 (x.step : Nat), .int .u32 (x.at_ : Nat), .int .u32 (x.prev : Nat), .int .u32 (x.next : Nat), .int .u32 (x.try_ : Nat), .int .u32 (x.state : Nat)]
def noWk : WkD := ⟨0, 0, 0, 0, 0, 0, 0⟩
def newJ (j : JobD) (id : Nat) : WkD := if id < walkersJ j then ⟨id, 0, j.src[srcN j id]!, 0, 0, 0, 0⟩ else noWk
def newV (j : JobD) (id : Nat) : Value := .tuple #[.agg (wkCs (newJ j id)), .bool (srcH j id)]
end Go.Proofs.Ytmflopeedofkhaa
