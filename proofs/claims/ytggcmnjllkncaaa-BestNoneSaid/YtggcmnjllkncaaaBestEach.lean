/- best.Each: the best ones of each source. -/
import Derived.Test.YtggcmnjllkncaaaBestKeys
import Derived.Maps.RangeWalk
namespace Go.Proofs.Ytggcmnjllkncaaa
set_option linter.unusedSimpArgs false
set_option linter.unusedVariables false
set_option maxRecDepth 100000
open Go.RowKit

theorem le_two63 {most : Int} (h : most ≤ 9223372036854775807) : most.toNat ≤ 9223372036854775807 := by omega
def eachI (L : List VisD) (mb m : Nat) (w : World) (i : Value) (wr : World) : Prop :=
  ∃ k K γ, k ≤ L.length ∧ i = .int .i64 (k : Nat) ∧ TopsAt wr mb w.heap.size m (L.take k) (srcsOf (L.take k)) K γ ∧ Below w.heap.size w wr
def keysI (K : List (Nat × Nat)) (mb r : Nat) (wR : World) (v9 : Value) (wr : World) : Prop :=
  ∃ seen xs ao cap g, v9 = .slice ao xs.length cap ∧ IterIs wr r mb K.length seen ∧ Own wr ao cap g 23 1 xs.length (u32s xs) ∧ (∀ k, g = some k → wR.heap.size ≤ k) ∧ Only (fun k => k = r) wR wr ∧ KeysS K seen xs
def outI (L : List VisD) (m : Nat) (S : List Nat) (wS : World) (v8 i : Value) (wr : World) : Prop :=
  ∃ (k : Nat) (acc : List VisD) (ao : Option Addr) (cap : Nat) (g : Option Nat), k ≤ S.length ∧ i = .int .i64 (k : Nat) ∧ v8 = .slice ao acc.length cap ∧ acc = eachV (S.take k) L m ∧ acc.length ≤ k * 1000 ∧ OwnS visRep (fun _ => False) wr ao cap g 31 acc ∧ (∀ q, g = some q → wS.heap.size ≤ q) ∧ Below wS.heap.size wS wr
def EachRet (L : List VisD) (m : Nat) (w : World) (e : Ending) (w' : World) : Prop := ∃ S, SrcsR L S ∧ RowsVis (eachV S L m) w e w'
theorem take_snoc {α : Type} {L : List α} {k : Nat} (h : k < L.length) : L.take (k + 1) = L.take k ++ [L[k]] := List.take_succ_eq_append_getElem h
theorem lookup_top {w : World} {mb base m : Nat} {L : List VisD} {S : List Nat} {K : List (Nat × Nat)} {γ : Nat → Option Nat} (h : TopsAt w mb base m L S K γ) (hn : S.Nodup) {p : Nat × Nat} (hp : p ∈ K) :
    (Instr.lookup 49 (.map (some mb)) (.int .u32 (p.1 : Nat)) false).run Try.prog w = .ok (.pointer (some ⟨p.2, 0, none⟩)) w := by
  obtain ⟨pre, post, n, he, hpre⟩ := ents_split hp (by rw [h.keys]; exact hn)
  have hm := h.map
  rw [he] at hm
  exact run_lookupU_is Try.underlying49 Try.underlying23 hm hpre
theorem lookup_none {w : World} {mb base m : Nat} {L : List VisD} {S : List Nat} {K : List (Nat × Nat)} {γ : Nat → Option Nat} (h : TopsAt w mb base m L S K γ) {s : Nat} (hs : s ∉ S) :
    (Instr.lookup 49 (.map (some mb)) (.int .u32 (s : Nat)) false).run Try.prog w = .ok (.pointer none) w :=
  run_lookupU_no Try.underlying49 Try.underlying23 Try.zeroValue26 h.map (h.nokey hs)
set_option maxRecDepth 100000 in
set_option maxHeartbeats 6400000 in
theorem each_any (L : List VisD) (most : Int) (ao : Option Addr) (cap : Nat) (fp : Nat → Prop) (w : World) (hl : L.length ≤ 1000) (h0 : -9223372036854775808 ≤ most) (h1 : most ≤ 9223372036854775807) (hrd : RdS visRep fp w ao L) :
    Calls Try.prog 15 #[.slice ao L.length cap, .int .i64 most] w (EachRet L most.toNat w) := by
  have HL := Lib.hid hl
  have H0 := Lib.hid (And.intro h0 h1)
  have HR := Lib.hid hrd
  have HNew := Lib.hid (fun W => tnew_any most W h0 h1)
  have hm := le_two63 h1
  obtain ⟨m, hme⟩ : ∃ m, most.toNat = m := ⟨_, rfl⟩
  rw [hme] at HNew hm ⊢
  have HM := Lib.hid hm
  clear hl h0 h1 hrd hme hm
  obtain ⟨w1, hw1⟩ : ∃ w1, w.alloc (.map #[] 0) = w1 := ⟨_, rfl⟩
  have hmk : (Instr.makeMap 49 none).run Try.prog w = .ok (.map (some w.heap.size)) w1 := by
    rw [← hw1]; simp [Instr.makeMap, newObj, Sem.run, Result.andThen]
  have HB1 := Lib.hid (show Below w.heap.size w w1 by rw [← hw1]; exact ext_alloc w _)
  have HT1 := Lib.hid (show TopsAt w1 w.heap.size w.heap.size m (L.take 0) (srcsOf (L.take 0)) [] (fun _ => none) from
    ⟨by rw [← hw1]; exact heap_alloc_new w _, rfl, fun p h => (by cases h), fun p h => (by cases h), fun p h => (by cases h), Nat.le_refl _⟩)
  clear hw1
  go_enter Try.func15, Try.ntmps15
  go_wp2_with fail
  go_loopw [16] (fun i wr => eachI L w.heap.size m w i wr) (fun i _ => L.length - (intOf i).toNat)
  case atStart => exact ⟨0, [], _, Nat.zero_le _, rfl, HT1.out, HB1.out⟩
  case round =>
    obtain ⟨k, K, γ, hk, rfl, hT, hB⟩ := hrel
    rename World => wo
    have hrd := HR.out.ext hB
    have HT := Lib.hid hT
    have HB := Lib.hid hB
    have hzB := hB.size
    clear hT hB
    have hmbl : w.heap.size < wo.heap.size := HT.out.map.lt
    by_cases hlt : k < L.length
    · have hkb : k ≤ 1000 := by have := HL.out; omega
      obtain ⟨b, off, rfl, _, hbl, x0, x1, x2, hx⟩ := hrd.vis k hlt
      have hxs : vat L k = L[k] := vat_get hlt
      have HS := Lib.hid (show srcsOf (L.take (k + 1)) = if (vat L k).1 ∈ srcsOf (L.take k) then srcsOf (L.take k) else srcsOf (L.take k) ++ [(vat L k).1] by rw [take_snoc hlt, srcsOf_snoc, hxs])
      have HTK := Lib.hid (show L.take (k + 1) = L.take k ++ [vat L k] by rw [take_snoc hlt, hxs])
      clear hxs hrd
      generalize vat L k = x at *
      obtain ⟨s, v, c⟩ := x
      simp only at x0 x1 x2 HS HTK
      have hir : (k : Int) < (L.length : Int) := by omega
      have HX := Lib.hid hx
      obtain ⟨W1, hW1⟩ : ∃ W1, wo.alloc (.cells #[.int .u32 (s : Nat), .int .u32 (v : Nat), .int .u64 (c : Nat)] 31) = W1 := ⟨_, rfl⟩
      have HBW := Lib.hid (show Below wo.heap.size wo W1 by rw [← hW1]; exact ext_alloc wo _)
      have HLW := Lib.hid (show wo.heap.size < W1.heap.size by rw [← hW1]; simp)
      have HTW := Lib.hid (HT.out.ext HBW.out)
      have hcB := Lib.hid (fun (W : World) (h : Below W1.heap.size W1 W) => (show W.cell? ⟨wo.heap.size, 0, none⟩ = some (.int .u32 (s : Nat)) ∧ W.cell? ⟨wo.heap.size, 1, none⟩ = some (.int .u32 (v : Nat)) ∧ W.cell? ⟨wo.heap.size, 2, none⟩ = some (.int .u64 (c : Nat)) from by
        have hl : wo.heap.size < W1.heap.size := by rw [← hW1]; simp
        refine ⟨((bcell h).1 _ _ hl).trans ?_, ((bcell h).1 _ _ hl).trans ?_, ((bcell h).1 _ _ hl).trans ?_⟩ <;> (rw [← hW1]; simp [go_sem])))
      obtain ⟨e0, e1, e2⟩ := hcB.out W1 (Below.refl _ _)
      have hnS := (srcsOf_all (L.take k)).1
      clear hx
      by_cases hin : s ∈ srcsOf (L.take k)
      · obtain ⟨p, hp, hps⟩ : ∃ p ∈ K, p.1 = s := by
          have := HT.out.keys
          rw [← this] at hin
          obtain ⟨p, hp, e⟩ := List.mem_map.1 hin
          exact ⟨p, hp, e⟩
        have hlk := lookup_top HTW.out hnS hp
        rw [hps] at hlk
        have hpu := tput_any (ofSrc (L.take k) p.1) (s, v, c) p.2 m (γ p.2) W1 (by have h1 := List.length_filter_le (fun x : VisD => x.1 == p.1) (L.take k); have h2 := HL.out; rw [List.length_take] at h1; unfold ofSrc; omega) HM.out HX.out (HTW.out.top p hp)
        simp only [visCs] at hpu
        have HP := Lib.hid (And.intro hp hps)
        have HNS := Lib.hid hnS
        have HSS := Lib.hid (show srcsOf (L.take (k + 1)) = srcsOf (L.take k) by rw [HS.out, if_pos hin])
        clear hp hps hin hnS
        go_wp2_with (first
          | (go_at_call 10; refine hpu.mono ?_; rintro e w3 ⟨rfl, hR⟩; clear hpu; have HPR := Lib.hid hR; clear hR))
        go_roundw
        case rel =>
          obtain ⟨γ', hT'⟩ := HTW.out.put HP.out.1 (x := (s, v, c)) HP.out.2.symm HNS.out (by have := HBW.out.size; omega) HPR.out
          have hon : Below w.heap.size W1 w3 := by
            obtain ⟨g', _, _, ho⟩ := HPR.out
            exact ho.below (by have := HBW.out.size; omega) (fun q hq e => by have := HTW.out.new p HP.out.1 q e; omega)
          exact ⟨k + 1, K, γ', by omega, by go_num, by rw [HSS.out, HTK.out]; exact hT', HB.out.trans ((HBW.out.mono hzB).trans hon)⟩
        case measure => have := HL.out; simp [intOf]; omega
      · have hlk := lookup_none HTW.out hin
        have HIN := Lib.hid hin
        have HSS := Lib.hid (show srcsOf (L.take (k + 1)) = srcsOf (L.take k) ++ [s] by rw [HS.out, if_neg hin])
        have HNS := Lib.hid (show (srcsOf (L.take k) ++ [s]).Nodup from HSS.out ▸ (srcsOf_all (L.take (k + 1))).1)
        have HNN := Lib.hid ((HNew.out W1.drew).mono (R' := fun e w2 => e = .returned (.pointer (some ⟨W1.heap.size, 0, none⟩)) ∧ ∃ w3, (Instr.mapUpdate 49 (.map (some w.heap.size)) (.int .u32 (s : Nat)) (.pointer (some ⟨W1.heap.size, 0, none⟩))).run Try.prog w2 = .ok () w3 ∧
            TopsAt w3 w.heap.size w.heap.size m (L.take k) (srcsOf (L.take k) ++ [s]) (K ++ [(s, W1.heap.size)]) (fun q => if q = W1.heap.size then none else γ q) ∧ Below w.heap.size wo w3 ∧
            (w2.cell? ⟨wo.heap.size, 0, none⟩ = some (.int .u32 (s : Nat)) ∧ w2.cell? ⟨wo.heap.size, 1, none⟩ = some (.int .u32 (v : Nat)) ∧ w2.cell? ⟨wo.heap.size, 2, none⟩ = some (.int .u64 (c : Nat))) ∧
            (w3.cell? ⟨wo.heap.size, 0, none⟩ = some (.int .u32 (s : Nat)) ∧ w3.cell? ⟨wo.heap.size, 1, none⟩ = some (.int .u32 (v : Nat)) ∧ w3.cell? ⟨wo.heap.size, 2, none⟩ = some (.int .u64 (c : Nat)))) (by
          rintro e w2 ⟨rfl, hT2, hB2⟩
          have hB12 : Below W1.heap.size W1 w2 := (ext_drew W1).trans hB2
          obtain ⟨w3, hup, hm3, hon3, hz3⟩ := run_insertU (P := Try.prog) (.pointer (some ⟨W1.heap.size, 0, none⟩)) Try.underlying49 Try.underlying23 (HTW.out.map.ext hB12) (HTW.out.nokey hin)
          have hC2 := hcB.out _ hB12
          have hl2 : wo.heap.size < w2.heap.size := Nat.lt_of_lt_of_le HLW.out hB12.size
          have hne2 : ¬ wo.heap.size = w.heap.size := by omega
          have hz1 := HBW.out.size
          refine ⟨rfl, w3, hup, HTW.out.add hin (ofSrc_nil hin) (Nat.le_refl _) (by omega) hB12 hT2 hm3 hon3, ?_, hC2, (hon3.cell hl2 hne2 0).trans hC2.1, (hon3.cell hl2 hne2 1).trans hC2.2.1, (hon3.cell hl2 hne2 2).trans hC2.2.2⟩
          exact (HBW.out.mono hzB).trans ((hB12.mono (by omega)).trans (hon3.below (by have := hB12.size; omega) (fun q hq e => by omega)))))
        clear hin hnS
        go_wp2_with fail
        go_region_held3 (fun w' => w'.cell? ⟨wo.heap.size, 0, none⟩ = some (.int .u32 (s : Nat)) ∧ w'.cell? ⟨wo.heap.size, 1, none⟩ = some (.int .u32 (v : Nat)) ∧ w'.cell? ⟨wo.heap.size, 2, none⟩ = some (.int .u64 (c : Nat)))
          (first | exact hcB.out _ (ext_drew _) | exact HC2.out | exact HC3.out)
          (first
            | (go_at_call 9; refine HNN.out.mono ?_; rintro e w2 ⟨rfl, w3, hup, hT3, hB3, hC2, hC3⟩; have HT3 := Lib.hid hT3; have HB3 := Lib.hid hB3; have HC2 := Lib.hid hC2; have HC3 := Lib.hid hC3; clear hT3 hB3 hC2 hC3)
            | fail "no arm")
        obtain ⟨c0, c1, c2⟩ := HC3.out
        have hlk3 := lookup_top HT3.out HNS.out (p := (s, W1.heap.size)) (by simp)
        have hpu := tput_any (ofSrc (L.take k) s) (s, v, c) W1.heap.size m _ w3 (by have h1 := List.length_filter_le (fun x : VisD => x.1 == s) (L.take k); have h2 := HL.out; rw [List.length_take] at h1; unfold ofSrc; omega) HM.out HX.out (HT3.out.top (s, W1.heap.size) (by simp))
        simp only [visCs, if_true] at hpu hlk3
        clear hlk e0 e1 e2 x0 x1 x2 hW1 hup
        go_wp2_with (first
          | (go_at_call 10; refine hpu.mono ?_; rintro e w4 ⟨rfl, hR⟩; clear hpu; have HPR := Lib.hid hR; clear hR))
        go_roundw
        case rel =>
          have hz := HBW.out.size
          have hz2 := HLW.out
          have hz3 := HB3.out.size
          obtain ⟨γ', hT'⟩ := HT3.out.put (p := (s, W1.heap.size)) (by simp) (x := (s, v, c)) rfl HNS.out (by omega) (by simpa using HPR.out)
          have hon : Below w.heap.size w3 w4 := by
            obtain ⟨g', _, _, ho⟩ := HPR.out
            exact ho.below (by omega) (fun q hq e => by rcases e with e | e; omega; cases e)
          exact ⟨k + 1, _, γ', by omega, by go_num, by rw [HSS.out, HTK.out]; exact hT', HB.out.trans (HB3.out.trans hon)⟩
        case measure => have := HL.out; simp [intOf]; omega
    · obtain rfl : k = L.length := by omega
      rw [List.take_length] at HT
      obtain ⟨n, hn⟩ : ∃ n, K.length = n := ⟨_, rfl⟩
      go_wp2_with (at_range; refine wpList_range_is rfl (.tmp 37) 49 rfl Try.underlying49 rfl HT.out.map ?_)
      go_frame
      obtain ⟨wR, hwR⟩ : ∃ wR, wR = wo.alloc (.mapIter (some w.heap.size) K.length #[] K.length) := ⟨_, rfl⟩
      rw [← hwR]
      have HIt := Lib.hid (show IterIs wR wo.heap.size w.heap.size K.length #[] by rw [hwR]; exact heap_alloc_new wo _)
      have HBR := Lib.hid (show Below wo.heap.size wo wR by rw [hwR]; exact ext_alloc wo _)
      have HTR := Lib.hid (HT.out.ext HBR.out)
      have HNo := Lib.hid (show (K.map (·.1)).Nodup by rw [HT.out.keys]; exact (srcsOf_all L).1)
      have HKl := Lib.hid (show K.length ≤ 1000 by
        have h1 := srcsOf_len L
        rw [← HT.out.keys, List.length_map] at h1
        have := HL.out
        omega)
      have hzR : wR.heap.size = wo.heap.size + 1 := by rw [hwR]; simp
      clear hwR hn hrd hlt hk
      have hE := u32sElem
      go_loopw [9, 10] (fun v9 _ wr => keysI K w.heap.size wo.heap.size wR v9 wr) (fun _ _ wr => (leftOf (ents K).toArray (wr.iterSeen wo.heap.size)).size)
      case atStart => exact ⟨#[], [], none, 0, none, rfl, HIt.out, Own.nil _ _ _, (fun k h => by cases h), Only.refl _ _, KeysS.nil K⟩
      case round =>
        obtain ⟨wp, rfl⟩ : ∃ wp : World, wp = wr := ⟨_, rfl⟩
        obtain ⟨seen, xs, a9, c9, g9, rfl, hit, hown, hg, hon, hks⟩ := hrel
        have Hit := Lib.hid hit
        have Hown := Lib.hid hown
        have Hg := Lib.hid hg
        have Hon := Lib.hid hon
        have Hks := Lib.hid hks
        have HTp := Lib.hid (HTR.out.only hon (by omega) (fun p hp k hk e => by have := (HT.out.lt hp hk).1; omega))
        have hxl : xs.length ≤ 1000 := by have := hks.2.2; have := HKl.out; omega
        clear hit hown hg hon hks
        go_wp2_with (at_next; refine wpList_next_is rfl (.tmp 38) rfl rfl Hit.out HTp.out.map ?_ ?_ ?_)
        case refine_1 =>
          intro x hx
          obtain ⟨p, hp, _, _, h, _⟩ := ents_mem hx
          exact h
        case refine_2 =>
          intro hl0
          have hall := Hks.out.done (by first | exact hl0 | (rw [hl0]; rfl))
          have hnx := Hks.out.1
          have HAll := Lib.hid hall
          have HNx := Lib.hid hnx
          have hso := sortU_any xs a9 c9 g9 wp hxl Hown.out
          clear hall hnx hl0
          go_wp2_with (first
            | (go_at_call 24; refine hso.mono ?_; rintro e wS ⟨rfl, S, hp, hs, hrd, hon⟩; clear hso; have HP := Lib.hid hp; have HS := Lib.hid hs; have HRd := Lib.hid hrd; have HOn := Lib.hid hon; have hpl := hp.length_eq; clear hp hs hrd hon))
          rw [← hpl] at hxl ⊢
          clear hpl
          have HTS := Lib.hid (HTp.out.only HOn.out (fun e => by have := Hg.out _ e; omega) (fun p hp k hk e => by have h1 := (HT.out.lt hp hk).1; have := Hg.out _ e; omega))
          have HSr := Lib.hid (show SrcsR L S from ⟨nodup_rise HS.out ((HP.out.nodup_iff).2 HNx.out), fun s => by rw [HP.out.mem_iff, HAll.out s, HT.out.keys, (srcsOf_all L).2 s]⟩)
          have HBS := Lib.hid (show Below w.heap.size w wS from HB.out.trans ((HBR.out.mono hzB).trans ((Hon.out.below (by omega) (fun k hk e => by omega)).trans (HOn.out.below (by have := Hon.out.size; omega) (fun k hk e => by have := Hg.out _ e; omega)))))
          have hES := visElemS
          go_loopw [8, 12, 51] (fun v8 _ i wr => outI L m S wS v8 i wr) (fun _ _ i _ => S.length - (intOf i).toNat)
          case atStart => exact ⟨0, [], none, 0, none, Nat.zero_le _, rfl, rfl, rfl, Nat.zero_le _, OwnS.nil _ _ _ _, (fun q h => by cases h), Below.refl _ _⟩
          case round =>
            obtain ⟨wq, rfl⟩ : ∃ wq : World, wq = wr := ⟨_, rfl⟩
            obtain ⟨k, acc, a8, c8, g8, hk, rfl, rfl, hacc, hal, hO, hg8, hBq⟩ := hrel
            have HO := Lib.hid hO
            have Hg8 := Lib.hid hg8
            have HBq := Lib.hid hBq
            have Hacc := Lib.hid hacc
            have hzq := hBq.size
            have hkb : k ≤ 1000 := by omega
            clear hO hg8 hBq hacc
            by_cases hlt : k < S.length
            · obtain ⟨b, rfl, hbl, hgb, hcb⟩ := HRd.out k hlt
              have hcq : wq.cell? ⟨b, k, none⟩ = some (.int .u32 (S[k] : Nat)) := ((bcell HBq.out).1 _ _ hbl).trans hcb
              have HTk := Lib.hid (show S.take (k + 1) = S.take k ++ [S[k]] from take_snoc hlt)
              obtain ⟨p, hp, hps⟩ : ∃ p ∈ K, p.1 = S[k] := by
                have h1 := (HAll.out S[k]).1 (HP.out.mem_iff.1 (List.getElem_mem hlt))
                obtain ⟨p, hp, e⟩ := List.mem_map.1 h1
                exact ⟨p, hp, e⟩
              have HTq := Lib.hid (HTS.out.ext HBq.out)
              have hlk := lookup_top HTq.out (srcsOf_all L).1 hp
              rw [hps] at hlk
              have hir : (k : Int) < (S.length : Int) := by omega
              generalize S[k] = s at *
              have hol : (ofSrc L s).length ≤ 1000 := by have h1 := List.length_filter_le (fun x : VisD => x.1 == s) L; have h2 := HL.out; unfold ofSrc; omega
              have hro := trows_any (ofSrc L p.1) p.2 m (γ p.2) wq (by rw [hps]; omega) (HTq.out.top p hp)
              rw [hps] at hro
              have hrl : (bestL (ofSrc L s) m).length ≤ 1000 := by rw [bestL_len]; omega
              obtain ⟨R, hR⟩ : ∃ R, bestL (ofSrc L s) m = R := ⟨_, rfl⟩
              rw [hR] at hro hrl
              have HRe := Lib.hid hR
              clear hR hp hps hcb
              obtain ⟨css, hown, hall⟩ := HO.out.own
              have Hown8 := Lib.hid (show Own wq a8 c8 g8 31 3 acc.length css.flatten from hown)
              have Hall8 := Lib.hid hall
              clear hown hall
              go_wp2_with (first
                | (go_at_call 14; refine hro.mono ?_; rintro e w2 ⟨a2, c2, rfl, h22, h23, hrd2, hB2⟩; clear hro; obtain ⟨css2, hall2, hsrc2⟩ := RdS.srcAll oneVis (tx := 22) Try.underlying22 hrd2; have HB2 := Lib.hid hB2; have HA2 := Lib.hid hall2; have HS2 := Lib.hid (hsrc2 w2 (Below.refl _ _) c2); clear hrd2 hB2 hall2 hsrc2 h22 h23)
                | (at_builtin; refine wpList_app rfl (.tmp 55) (.tmp 59) 22 22 rfl hES (Hown8.out.ext HB2.out) rfl rfl HS2.out (by simp [maxLen]; omega) (by omega) ?_; intro ao4 cap4 g4 w4 ho4 hg4 hon4; have Ho4 := Lib.hid ho4; have Hg4 := Lib.hid hg4; have Hon4 := Lib.hid hon4; clear ho4 hg4 hon4))
              go_roundw
              case rel =>
                have hz2 := HB2.out.size
                have hbB : Below wS.heap.size wS w4 := HBq.out.trans ((HB2.out.mono hzq).trans (Hon4.out.below (by omega) (fun q hq e => by have := Hg8.out q e; omega)))
                refine ⟨k + 1, acc ++ R, ao4, cap4, g4, by omega, by go_num, by simp, ?_, by simp; omega, ⟨css ++ css2, ?_, ?_⟩, ?_, hbB⟩
                · rw [HTk.out, Hacc.out]
                  unfold eachV
                  rw [List.flatMap_append, ← HRe.out]
                  simp
                · have h : Own w4 ao4 cap4 g4 31 3 (acc ++ R).length (css ++ css2).flatten := by simpa using Ho4.out
                  exact h
                · exact all2_append (vis_nofp Hall8.out _) (vis_nofp HA2.out _)
                · intro q hq
                  rcases Hg4.out with e | e
                  · exact Hg8.out q (by rw [← e]; exact hq)
                  · rw [e] at hq; cases hq; omega
              case measure => simp [intOf]; omega
            · obtain rfl : k = S.length := by omega
              go_wp2_with fail
              go_ret
              have hae : acc = eachV S L m := by rw [Hacc.out, List.take_length]
              refine ⟨S, HSr.out, a8, c8, by rw [← hae]; rfl, by rw [← hae]; exact HO.out.capLe.1, HO.out.capLe.2, ?_, HBS.out.trans (HBq.out.mono HBS.out.size)⟩
              rw [← hae]
              exact HO.out.rd.mono (fun q hq _ => by
                rcases hq with h | h
                · exact h.elim
                · have := Hg8.out q h; have := HBS.out.size; omega)
        case refine_3 =>
          rintro ⟨ky, vl, bn⟩ w3 he hit3 hon3 hs3
          have he := Array.mem_toList_iff.2 he
          obtain ⟨hm3, hns3⟩ := mem_left he
          have hm3' : (⟨ky, vl, bn⟩ : MapEntry) ∈ ents K := by simpa using hm3
          obtain ⟨p, hp, hky, hvl, hbl, hgt⟩ := ents_mem hm3'
          simp only at hky hvl hbl hgt
          subst hky hvl
          have Hks3 := Lib.hid (Hks.out.step HNo.out he (s := p.1) rfl)
          have HT3 := Lib.hid (HTp.out.only hon3 (by omega) (fun p hp k hk e => by have := (HT.out.lt hp hk).1; omega))
          have Hit3 := Lib.hid hit3
          have Hon3 := Lib.hid hon3
          have He := Lib.hid he
          have Hm3 := Lib.hid hm3'
          have Hown3 := Lib.hid (Hown.out.keep (fun b hb => hon3.same b (Hown.out.lt b hb) (by have := Hg.out b hb; omega)))
          clear hit3 hon3 he hm3 hm3' hns3 hp hgt hs3
          go_wp2_with (first
            | refine wpList_entry_is rfl (.tmp 38) rfl rfl Hit3.out HT3.out.map Hm3.out (ents_born K) ?_
            | (at_builtin; (refine wpList_app rfl (.tmp 43) (.tmp 45) 50 50 rfl hE (Hown3.out.keep (fun b hb => (ext_alloc w3 _).block b (Hown3.out.lt b hb))) rfl rfl (Src.ofSlice (w3.alloc (.cells #[.int .u32 (p.1 : Nat)] 23)) Try.underlying50 ⟨w3.heap.size, 0, none⟩ 1 1 [.int .u32 (p.1 : Nat)] rfl (fun j u hu => by rw [Addr.add_lit, Nat.zero_add, World.cell?_alloc_new]; simpa using hu) (by simp [Value.oneCell'])) (by simp [maxLen]; omega) (by omega) ?_); intro ao4 cap4 g4 w4 ho4 hg4 hon4; have Ho4 := Lib.hid ho4; have Hg4 := Lib.hid hg4; have Hon4 := Lib.hid hon4; clear ho4 hg4 hon4))
          go_roundw
          case rel =>
            have hz3 := Hon3.out.size
            refine ⟨seen.push bn, xs ++ [p.1], ao4, cap4, g4, by simp, Hit3.out.keep ?_, by simpa [u32s] using Ho4.out, ?_, ?_, Hks3.out⟩
            · rw [Hon4.out.same _ (by simp; have := Hit3.out.lt; omega) (fun e => by have := Hg.out _ e; omega)]
              exact (ext_alloc w3 _).block _ Hit3.out.lt
            · intro q hq
              have := Hon.out.size
              rcases Hg4.out with e | e
              · exact Hg.out q (by rw [← e]; exact hq)
              · rw [e] at hq; cases hq; simp; omega
            · refine (Hon.out.trans Hon3.out (fun _ _ e => e)).trans ((Only.of_below (fp := fun k => g9 = some k) (ext_alloc w3 _)).trans Hon4.out (fun _ _ e => e)) (fun i hi e => ?_)
              have := Hg.out i e
              omega
          case measure =>
            have hk3 : w4.heap[wo.heap.size]? = w3.heap[wo.heap.size]? := by
              rw [Hon4.out.same _ (by simp; have := Hit3.out.lt; omega) (fun e => by have := Hg.out _ e; omega)]
              exact (ext_alloc w3 _).block _ Hit3.out.lt
            rw [(Hit3.out.keep hk3).iterSeen, Hit.out.iterSeen]
            exact left_shrinks (ents K).toArray seen _ He.out
end Go.Proofs.Ytggcmnjllkncaaa
