/- corpus.Print, the reference's Print. -/
import Derived.Test.YtbleacpdobjdaaaCorpSame
import Derived.Test.YtbleacpdobjdaaaTextPut
namespace Go.Proofs.Ytbleacpdobjdaaa
set_option linter.unusedSimpArgs false
set_option linter.unusedVariables false
open Go.RowKit

def vertsB (l : List Nat) : List UInt8 := l.flatMap fun v => 32 :: digits v
def pathLine (p : PathD) : List UInt8 := digits p.1 ++ vertsB p.2 ++ [10]
def printP (l : List PathD) : List UInt8 := l.flatMap pathLine
theorem printP_snoc (l : List PathD) (p : PathD) : printP (l ++ [p]) = printP l ++ pathLine p := by simp [printP]
theorem vertsB_snoc (l : List Nat) (v : Nat) : vertsB (l ++ [v]) = vertsB l ++ (32 :: digits v) := by simp [vertsB]
theorem printP_take (l : List PathD) (k : Nat) (h : k < l.length) : printP (l.take (k + 1)) = printP (l.take k) ++ pathLine l[k] := by rw [take_next l k h, printP_snoc]
theorem printP_mono (l : List PathD) (k : Nat) : (printP (l.take k)).length ≤ (printP l).length := by
  have h : printP l = printP (l.take k) ++ printP (l.drop k) := by unfold printP; rw [← List.flatMap_append, List.take_append_drop]
  rw [h, List.length_append]; omega
theorem vertsB_mono (l : List Nat) (k : Nat) : (vertsB (l.take k)).length ≤ (vertsB l).length := by
  have h : vertsB l = vertsB (l.take k) ++ vertsB (l.drop k) := by unfold vertsB; rw [← List.flatMap_append, List.take_append_drop]
  rw [h, List.length_append]; omega

/-- what is printed so far -/
def prI (w : World) (B : List UInt8) (o : Value) (wr : World) : Prop :=
  ∃ ao cap g, o = .slice ao B.length cap ∧ Own wr ao cap g 5 1 B.length (byteVals B) ∧ (∀ k, g = some k → w.heap.size ≤ k) ∧ Below w.heap.size w wr

set_option maxRecDepth 100000 in
set_option maxHeartbeats 3200000 in
theorem print28_any (l : List PathD) (ao : Option Addr) (cap : Nat) (w : World) (hl : l.length ≤ 1073741824) (hall : ∀ p ∈ l, p.2.length ≤ 1073741824) (hp : (printP l).length ≤ 1073741700) (hrd : RdS pathRep (fun b => b < w.heap.size) w ao l) :
    Calls Try.prog 39 #[.slice ao l.length cap] w (RetOwn 5 1 (printP l).length (byteVals (printP l)) w) := by
  have hE := bytesElem
  have Hrd := Lib.hid hrd
  have Hall := Lib.hid hall
  clear hrd hall
  go_enter Try.func39, Try.ntmps39
  go_wp2_with fail
  go_loopw [3, 10] (fun o i wr => ∃ k : Nat, k ≤ l.length ∧ i = .int .i64 (k : Nat) ∧ prI w (printP (l.take k)) o wr) (fun _ i _ => l.length - (intOf i).toNat)
  case atStart => exact ⟨0, by omega, rfl, none, 0, none, by simp [printP], by simp [printP, byteVals]; exact Own.nil _ _ _, by simp, Below.refl _ _⟩
  case round =>
    obtain ⟨k, hk, rfl, ao', cap', g, rfl, ho, hg, hB⟩ := hrel
    obtain ⟨wo, rfl⟩ : ∃ wo : World, wo = wr := ⟨_, rfl⟩
    have Ho := Lib.hid ho
    have Hg := Lib.hid hg
    have HB := Lib.hid hB
    clear ho hg hB
    by_cases hlt : k < l.length
    · obtain ⟨b, off, ap, cp, rfl, hb, hc0', hc1', hra, hv, _⟩ := Hrd.out.path k hlt
      have hc0 := ((bcell HB.out).1 _ _ hb).trans hc0'
      have hc1 := ((bcell HB.out).1 _ _ hb).trans hc1'
      clear hc0' hc1'
      have hir : (k : Int) < (l.length : Int) := by omega
      have hpl := Hall.out l[k] (List.getElem_mem hlt)
      have htk := printP_take l k hlt
      have hm1 := printP_mono l (k + 1)
      obtain ⟨p, hpe⟩ : ∃ p, l[k] = p := ⟨_, rfl⟩
      rw [hpe] at hc0 hc1 hra hv hpl htk
      obtain ⟨P, hP⟩ : ∃ P, printP (l.take k) = P := ⟨_, rfl⟩
      rw [hP] at htk
      rw [htk] at hm1
      simp only [List.length_append, pathLine, List.length_singleton] at hm1
      simp only [hP]
      have hPut := put_any P p.1 (by omega) (by omega)
      have Ho' : Hid (Own wo ao' cap' g 5 1 P.length (byteVals P)) := by rw [← hP]; exact Ho
      have Hra := Lib.hid hra
      have Htk := Lib.hid htk
      have HPut := Lib.hid hPut
      clear hra htk hpe hPut Ho
      go_wp2_with (go_at_call 21; refine (HPut.out _ _ _ g (Ho'.out.alloc _)).mono ?_; rintro e W2 ⟨ao2, cap2, g2, rfl, ho2, hg2, hon2⟩; have e1 := (hon2.cell (b := wo.heap.size) (by simp) (fun e => by have := Ho'.out.lt _ e; omega) 1); rw [World.cell?_alloc_new] at e1; simp only [List.getElem?_toArray, List.getElem?_cons_succ, List.getElem?_cons_zero] at e1)
      have hW : prI w (P ++ digits p.1 ++ vertsB (p.2.take 0)) (.slice ao2 (P.length + (digits p.1).length) cap2) W2 := by
        refine ⟨ao2, cap2, g2, by simp [vertsB], by simpa [vertsB] using ho2, fun k hk => ?_, ?_⟩
        · rcases hg2 k hk with h | h
          · exact Hg.out k h
          · have := HB.out.size; simp at h; omega
        · exact (HB.out.alloc HB.out.size _).trans (hon2.below (by have := HB.out.size; simp; omega) (fun k hk e => by have := Hg.out k e; omega))
      have HW := Lib.hid hW
      clear hW ho2 hg2 hon2 e1 HPut
      go_loopw [3, 22] (fun o i wr2 => ∃ j : Nat, j ≤ p.2.length ∧ i = .int .i64 (j : Nat) ∧ prI w (P ++ digits p.1 ++ vertsB (p.2.take j)) o wr2) (fun _ i _ => p.2.length - (intOf i).toNat)
      case atStart => exact ⟨0, by omega, rfl, HW.out⟩
      case round =>
        clear HW
        obtain ⟨j, hj, rfl, ao3, cap3, g3, rfl, ho3, hg3, hB3⟩ := hrel
        have Ho3 := Lib.hid ho3
        have Hg3 := Lib.hid hg3
        have HB3 := Lib.hid hB3
        clear ho3 hg3 hB3
        have hm2 := vertsB_mono p.2 (j + 1)
        by_cases hjl : j < p.2.length
        · obtain ⟨bv, ov, rfl, hbv, hcv, hvb⟩ := (Hra.out.below HB3.out (fun _ h => h)).cellU32 j hjl
          have hir2 : (j : Int) < (p.2.length : Int) := by omega
          have htj := take_next p.2 j hjl
          obtain ⟨v, hve⟩ : ∃ v, p.2[j] = v := ⟨_, rfl⟩
          rw [hve] at hcv hvb htj
          rw [htj, vertsB_snoc] at hm2
          obtain ⟨Q, hQ⟩ : ∃ Q, P ++ digits p.1 ++ vertsB (p.2.take j) = Q := ⟨_, rfl⟩
          have hQl := congrArg List.length hQ
          simp only [List.length_append, List.length_cons] at hQl hm2
          simp only [hQ]
          have hPut := put_any (Q ++ [32]) v (by simp; omega) (by omega)
          have hq1 : (Q ++ [(32 : UInt8)]).length = Q.length + 1 := by simp
          rw [hq1] at hPut
          clear hq1
          have Ho4 := Ho3.out
          rw [hQ] at Ho4
          have HO4 := Lib.hid Ho4
          have Htj := Lib.hid (show P ++ digits p.1 ++ vertsB (p.2.take (j + 1)) = Q ++ [32] ++ digits v by rw [htj, vertsB_snoc, ← hQ]; simp)
          have HPut := Lib.hid hPut
          have hQle : Q.length ≤ 1073741700 := by omega
          clear htj hve hPut Ho3 Ho4 hQ hQl hm2
          go_wp2_with (first
            | (at_builtin; refine wpList_app rfl (.tmp 26) (.tmp 27) 34 34 rfl hE (HO4.out.alloc _) rfl rfl (srcOne Try.underlying34 _ _ _ _ rfl) (by simp [maxLen]; omega) (by omega) ?_; intro ao4 cap4 g4 W4 ho4 hg4 hon4; have ho4' : Own W4 ao4 cap4 g4 5 1 (Q.length + 1) (byteVals (Q ++ [32])) := (by simpa [byteVals] using ho4); have Ho5 := Lib.hid ho4'; have Hg4 := Lib.hid hg4; have Hon4 := Lib.hid hon4; clear ho4 hg4 hon4 ho4')
            | (go_at_call 21; refine (HPut.out W4 ao4 cap4 g4 Ho5.out).mono ?_; rintro e W5 ⟨ao5, cap5, g5, rfl, ho5, hg5, hon5⟩))
          go_roundw
          case rel =>
            have hs := HB3.out.size
            have hG4 : ∀ k, g4 = some k → w.heap.size ≤ k := fun k h => by
              rcases Hg4.out with rfl | rfl
              · exact Hg3.out k h
              · cases h; simp; omega
            have hB4 : Below w.heap.size w W4 := (HB3.out.alloc hs _).trans (Hon4.out.below (by simp; omega) (fun k hk e => by have := Hg3.out k e; omega))
            have e5 : (Q ++ [(32 : UInt8)] ++ digits v).length = Q.length + 1 + (digits v).length := by simp; omega
            refine ⟨j + 1, by omega, by go_num, ao5, cap5, g5, by rw [Htj.out, e5], by rw [Htj.out, e5]; exact ho5, fun k hk => ?_, hB4.trans (hon5.below hB4.size (fun k hk e => by have := hG4 k e; omega))⟩
            rcases hg5 k hk with h | h
            · exact hG4 k h
            · have := hB4.size; omega
          case measure => simp [intOf]; omega
        · obtain rfl : j = p.2.length := by omega
          rw [List.take_length] at Ho3 ⊢
          obtain ⟨Q, hQ⟩ : ∃ Q, P ++ digits p.1 ++ vertsB p.2 = Q := ⟨_, rfl⟩
          have hQl := congrArg List.length hQ
          simp only [List.length_append] at hQl
          have Ho4 := Ho3.out
          rw [hQ] at Ho4
          have HO4 := Lib.hid Ho4
          have HQ := Lib.hid hQ
          have hQle : Q.length ≤ 1073741700 := by omega
          rw [hQ]
          clear Ho4 Ho3 hQ hQl hm2
          go_wp2_with (at_builtin; refine wpList_app rfl (.tmp 33) (.tmp 34) 34 34 rfl hE (HO4.out.alloc _) rfl rfl (srcOne Try.underlying34 _ _ _ _ rfl) (by simp [maxLen]; omega) (by omega) ?_; intro ao4 cap4 g4 W4 ho4 hg4 hon4; have Ho5 := Lib.hid ho4; have Hg4 := Lib.hid hg4; have Hon4 := Lib.hid hon4; clear ho4 hg4 hon4)
          go_roundw
          case rel =>
            have hs := HB3.out.size
            have hT : printP (l.take (k + 1)) = Q ++ [10] := by rw [Htk.out, ← HQ.out, pathLine]; simp
            refine ⟨k + 1, by omega, by go_num, ao4, cap4, g4, by rw [hT]; simp, by rw [hT]; simpa [byteVals] using Ho5.out, fun k h => ?_, (HB3.out.alloc hs _).trans (Hon4.out.below (by simp; omega) (fun k hk e => by have := Hg3.out k e; omega))⟩
            rcases Hg4.out with rfl | rfl
            · exact Hg3.out k h
            · cases h; simp; omega
          case measure => simp [intOf]; omega
    · obtain rfl : k = l.length := by omega
      have hpe : printP (l.take l.length) = printP l := by rw [List.take_length]
      rw [hpe] at Ho ⊢
      clear hpe
      go_wp2_with fail
      go_ret
      exact ⟨ao', cap', g, rfl, Ho.out, Hg.out, HB.out⟩

set_option maxRecDepth 100000 in
set_option maxHeartbeats 3200000 in
theorem rprint28_any (l : List PathD) (ao : Option Addr) (cap : Nat) (w : World) (hl : l.length ≤ 1073741824) (hall : ∀ p ∈ l, p.2.length ≤ 1073741824) (hp : (printP l).length ≤ 1073741700) (hrd : RdS pathRep (fun b => b < w.heap.size) w ao l) :
    Calls Try.prog 40 #[.slice ao l.length cap] w fun e w' => e = .returned (.string (bs (printP l))) ∧ Below w.heap.size w w' := by
  have Hrd := Lib.hid hrd
  have Hall := Lib.hid hall
  clear hrd hall
  go_enter Try.func40, Try.ntmps40
  go_wp2_with fail
  go_loopw [3, 8] (fun o i wr => ∃ k : Nat, k ≤ l.length ∧ i = .int .i64 (k : Nat) ∧ o = .string (bs (printP (l.take k))) ∧ Below w.heap.size w wr) (fun _ i _ => l.length - (intOf i).toNat)
  case atStart => exact ⟨0, by omega, rfl, rfl, Below.refl _ _⟩
  case round =>
    obtain ⟨k, hk, rfl, rfl, hB⟩ := hrel
    obtain ⟨wo, rfl⟩ : ∃ wo : World, wo = wr := ⟨_, rfl⟩
    have HB := Lib.hid hB
    clear hB
    by_cases hlt : k < l.length
    · obtain ⟨b, off, ap, cp, rfl, hb, hc0', hc1', hra, hv, _⟩ := Hrd.out.path k hlt
      have hc0 := ((bcell HB.out).1 _ _ hb).trans hc0'
      have HC1 := Lib.hid hc1'
      clear hc0' hc1'
      have hir : (k : Int) < (l.length : Int) := by omega
      have hpl := Hall.out l[k] (List.getElem_mem hlt)
      have htk := printP_take l k hlt
      have hm1 := printP_mono l (k + 1)
      obtain ⟨p, hpe⟩ : ∃ p, l[k] = p := ⟨_, rfl⟩
      rw [hpe] at hc0 HC1 hra hv hpl htk
      obtain ⟨P, hP⟩ : ∃ P, printP (l.take k) = P := ⟨_, rfl⟩
      rw [hP] at htk
      rw [htk] at hm1
      simp only [List.length_append, pathLine, List.length_singleton] at hm1
      simp only [hP]
      have hPut := rput_any p.1 (by omega)
      have Hra := Lib.hid hra
      have Htk := Lib.hid htk
      have HPut := Lib.hid hPut
      clear hra htk hpe hPut hP
      have hadd := str_add P (digits p.1) (by omega)
      go_wp2_with (go_at_call 22; refine (HPut.out _).mono ?_; rintro e W2 ⟨rfl, hB2⟩; have e1 := (((HB.out.trans (hB2.mono HB.out.size)).cell (p := ⟨b, off + k * 2 + 1, none⟩) hb)).trans HC1.out; have HB2 := Lib.hid (HB.out.trans (hB2.mono HB.out.size)); clear hB2)
      clear hadd e1 HPut
      go_loopw [3, 26] (fun o i wr2 => ∃ j : Nat, j ≤ p.2.length ∧ i = .int .i64 (j : Nat) ∧ o = .string (bs (P ++ digits p.1 ++ vertsB (p.2.take j))) ∧ Below w.heap.size w wr2) (fun _ i _ => p.2.length - (intOf i).toNat)
      case atStart => exact ⟨0, by omega, rfl, by simp [vertsB], HB2.out⟩
      case round =>
        obtain ⟨j, hj, rfl, rfl, hB3⟩ := hrel
        have HB3 := Lib.hid hB3
        clear hB3
        have hm2 := vertsB_mono p.2 (j + 1)
        by_cases hjl : j < p.2.length
        · obtain ⟨bv, ov, rfl, hbv, hcv', hvb⟩ := Hra.out.cellU32 j hjl
          have hcv := ((bcell HB3.out).1 _ _ hbv).trans hcv'
          have e1 := ((bcell HB3.out).1 _ _ hb).trans HC1.out
          have hir2 : (j : Int) < (p.2.length : Int) := by omega
          have htj := take_next p.2 j hjl
          obtain ⟨v, hve⟩ : ∃ v, p.2[j] = v := ⟨_, rfl⟩
          rw [hve] at hcv hvb htj
          rw [htj, vertsB_snoc] at hm2
          obtain ⟨Q, hQ⟩ : ∃ Q, P ++ digits p.1 ++ vertsB (p.2.take j) = Q := ⟨_, rfl⟩
          have hQl := congrArg List.length hQ
          simp only [List.length_append, List.length_cons] at hQl hm2
          simp only [hQ]
          have hPut := rput_any v (by omega)
          have Htj := Lib.hid (show P ++ digits p.1 ++ vertsB (p.2.take (j + 1)) = Q ++ [32] ++ digits v by rw [htj, vertsB_snoc, ← hQ]; simp)
          have HPut := Lib.hid hPut
          have ha1 := str_add Q [32] (by simp; omega)
          have ha2 := str_add (Q ++ [32]) (digits v) (by simp; omega)
          simp only [show bs [32] = ⟨#[32]⟩ from rfl] at ha1
          clear htj hve hPut hQ hQl hm2 hcv'
          go_wp2_with (go_at_call 22; refine (HPut.out _).mono ?_; rintro e W4 ⟨rfl, hB4⟩)
          go_roundw
          case rel => exact ⟨j + 1, by omega, by go_num, by rw [Htj.out]; simp, HB3.out.trans (hB4.mono HB3.out.size)⟩
          case measure => simp [intOf]; omega
        · obtain rfl : j = p.2.length := by omega
          rw [List.take_length]
          obtain ⟨Q, hQ⟩ : ∃ Q, P ++ digits p.1 ++ vertsB p.2 = Q := ⟨_, rfl⟩
          have hQl := congrArg List.length hQ
          simp only [List.length_append] at hQl
          have HQ := Lib.hid hQ
          have ha1 := str_add Q [10] (by simp; omega)
          simp only [show bs [10] = ⟨#[10]⟩ from rfl] at ha1
          rw [hQ]
          clear hQ hQl hm2
          go_wp2_with fail
          go_roundw
          case rel =>
            have hT : printP (l.take (k + 1)) = Q ++ [10] := by rw [Htk.out, ← HQ.out, pathLine]; simp
            exact ⟨k + 1, by omega, by go_num, by rw [hT], HB3.out⟩
          case measure => simp [intOf]; omega
    · obtain rfl : k = l.length := by omega
      have hpe : printP (l.take l.length) = printP l := by rw [List.take_length]
      have Hpe := Lib.hid hpe
      clear hpe
      go_wp2_with fail
      go_ret
      exact ⟨congrArg (fun x => Ending.returned (.string (bs x))) Hpe.out, HB.out⟩
end Go.Proofs.Ytbleacpdobjdaaa
