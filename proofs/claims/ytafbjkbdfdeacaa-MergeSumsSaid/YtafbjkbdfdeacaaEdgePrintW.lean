/- edge.Print, the reference's Line, Print, May. -/
import Derived.Test.YtafbjkbdfdeacaaEdgeRef2
import Derived.Test.YtafbjkbdfdeacaaTextPut
namespace Go.Proofs.Ytafbjkbdfdeacaa
set_option linter.unusedSimpArgs false
set_option linter.unusedVariables false
open Go.RowKit

theorem takeE (l : List EdgeD) (k : Nat) (h : k < l.length) : printE (l.take (k + 1)) = printE (l.take k) ++ lineE l[k] := by
  rw [List.take_succ_eq_append_getElem h, printE_snoc]
theorem monoE (l : List EdgeD) (k : Nat) : (printE (l.take k)).length ≤ (printE l).length := by
  have h : printE l = printE (l.take k) ++ printE (l.drop k) := by unfold printE; rw [← List.flatMap_append, List.take_append_drop]
  rw [h, List.length_append]; omega
def numE (x : EdgeD) (j : Nat) : Nat := if j = 0 then x.1 else if j = 1 then x.2.1 else x.2.2
def pieceE (x : EdgeD) : Nat → List UInt8
  | 0 => []
  | 1 => digits x.1
  | 2 => digits x.1 ++ 32 :: digits x.2.1
  | _ => bodyE x
theorem pieceE_step (x : EdgeD) (j : Nat) (h : j < 3) : pieceE x (j + 1) = pieceE x j ++ (if 0 < j then [32] else []) ++ digits (numE x j) := by
  match j, h with
  | 0, _ => simp [pieceE, numE]
  | 1, _ => simp [pieceE, numE]
  | 2, _ => simp [pieceE, numE, bodyE]
theorem pieceE_len (x : EdgeD) (j : Nat) (h : j ≤ 3) : (pieceE x j).length ≤ (bodyE x).length := by
  match j, h with
  | 0, _ => simp [pieceE]
  | 1, _ => simp [pieceE, bodyE]
  | 2, _ => simp [pieceE, bodyE]
  | 3, _ => simp [pieceE]
/-- what is printed so far -/
def prE (w : World) (B : List UInt8) (o : Value) (wr : World) : Prop :=
  ∃ ao cap g, o = .slice ao B.length cap ∧ Own wr ao cap g 5 1 B.length (byteVals B) ∧ (∀ k, g = some k → w.heap.size ≤ k) ∧ Below w.heap.size w wr

set_option maxRecDepth 100000 in
set_option maxHeartbeats 3200000 in
theorem eprint_any (l : List EdgeD) (ao : Option Addr) (cap : Nat) (fp : Nat → Prop) (w : World) (hl : l.length ≤ 1073741824) (hp : (printE l).length ≤ 1073741600) (hrd : RdS edgeRep fp w ao l) :
    Calls Try.prog 37 #[.slice ao l.length cap] w (RetOwn 5 1 (printE l).length (byteVals (printE l)) w) := by
  have hE := bytesElem
  have Hrd := Lib.hid hrd
  clear hrd
  go_enter Try.func37, Try.ntmps37
  go_wp2_with fail
  go_loopw [3, 10] (fun o i wr => ∃ k : Nat, k ≤ l.length ∧ i = .int .i64 (k : Nat) ∧ prE w (printE (l.take k)) o wr) (fun _ i _ => l.length - (intOf i).toNat)
  case atStart => exact ⟨0, by omega, rfl, none, 0, none, by simp [printE], by simp [printE, byteVals]; exact Own.nil _ _ _, by simp, Below.refl _ _⟩
  case round =>
    obtain ⟨k, hk, rfl, ao', cap', g, rfl, ho, hg, hB⟩ := hrel
    obtain ⟨wo, rfl⟩ : ∃ wo : World, wo = wr := ⟨_, rfl⟩
    have Ho := Lib.hid ho
    have Hg := Lib.hid hg
    have HB := Lib.hid hB
    clear ho hg hB
    by_cases hlt : k < l.length
    · obtain ⟨b, off, rfl, hb, hc0', hc1', hc2', hok⟩ := Hrd.out.edge k hlt
      have hc0 := ((bcell HB.out).1 _ _ hb).trans hc0'
      have hc1 := ((bcell HB.out).1 _ _ hb).trans hc1'
      have hc2 := ((bcell HB.out).1 _ _ hb).trans hc2'
      clear hc0' hc1' hc2'
      have hir : (k : Int) < (l.length : Int) := by omega
      have htk := takeE l k hlt
      have hm1 := monoE l (k + 1)
      generalize l[k] = x at hc0 hc1 hc2 hok htk
      obtain ⟨P, hP⟩ : ∃ P, printE (l.take k) = P := ⟨_, rfl⟩
      rw [hP] at htk
      rw [htk] at hm1
      simp only [List.length_append, lineE, List.length_singleton] at hm1
      simp only [hP]
      have Ho' : Hid (Own wo ao' cap' g 5 1 P.length (byteVals P)) := by rw [← hP]; exact Ho
      have Htk := Lib.hid htk
      have hpl := fun j h => pieceE_len x j h
      have hstep := fun j h => pieceE_step x j h
      have hnum : ∀ j, numE x j < 4294967296 := fun j => by unfold numE; have := hok.1; have := hok.2.1; have := hok.2.2; split <;> (try split) <;> omega
      have hidx : ∀ j : Nat, j < 3 → ∀ u : World, (Instr.index 79 (.agg #[.int .u32 (x.1 : Nat), .int .u32 (x.2.1 : Nat), .int .u32 (x.2.2 : Nat)]) (.int .i64 (j : Nat))).run Try.prog u = .ok (.int .u32 (numE x j : Nat)) u := fun j hj => by
        match j, hj with
        | 0, _ => exact fun u => by kernel_rfl
        | 1, _ => exact fun u => by kernel_rfl
        | 2, _ => exact fun u => by kernel_rfl
      have Hpl := Lib.hid hpl
      have Hst := Lib.hid hstep
      have Hnum := Lib.hid hnum
      have Hidx := Lib.hid hidx
      clear htk hP hpl hstep hnum hidx Ho
      go_wp2_with fail
      have hW : prE w (P ++ pieceE x 0) (.slice ao' P.length cap') (wo.alloc (.cells #[.int .u32 (x.1 : Nat), .int .u32 (x.2.1 : Nat), .int .u32 (x.2.2 : Nat)] 24)) :=
        ⟨ao', cap', g, by simp [pieceE], by simpa [pieceE] using Ho'.out.alloc _, Hg.out, HB.out.alloc HB.out.size _⟩
      have HW := Lib.hid hW
      clear hW Ho'
      go_loopw [3, 21] (fun o i wr2 => ∃ j : Nat, j ≤ 3 ∧ i = .int .i64 (j : Nat) ∧ prE w (P ++ pieceE x j) o wr2) (fun _ i _ => 3 - (intOf i).toNat)
      case atStart => exact ⟨0, by omega, rfl, HW.out⟩
      case round =>
        clear HW
        obtain ⟨j, hj, rfl, ao3, cap3, g3, rfl, ho3, hg3, hB3⟩ := hrel
        have Ho3 := Lib.hid ho3
        have Hg3 := Lib.hid hg3
        have HB3 := Lib.hid hB3
        have hs := hB3.size
        clear ho3 hg3 hB3
        by_cases hjl : j < 3
        · have hidx := Hidx.out j hjl
          have hvb := Hnum.out j
          have hst := Hst.out j hjl
          have hpl := Hpl.out j (by omega)
          have hpl1 := Hpl.out (j + 1) (by omega)
          have hir2 : (j : Int) < 3 := by omega
          generalize numE x j = v at hidx hvb hst
          generalize pieceE x j = pc at hst hpl Ho3
          obtain ⟨Q, hQ⟩ : ∃ Q, P ++ pc = Q := ⟨_, rfl⟩
          have hQl := congrArg List.length hQ
          simp only [List.length_append] at hQl
          have Ho4 := Ho3.out
          rw [hQ] at Ho4
          have HO4 := Lib.hid Ho4
          have hQle : Q.length ≤ 1073741700 := by omega
          rw [hQ]
          by_cases h0 : 0 < j
          · have hgt : decide ((0 : Int) < (j : Int)) = true := decide_eq_true (by omega)
            rw [if_pos h0] at hst
            have hPut := put_any (Q ++ [32]) v (by simp; omega) (by omega)
            have hq1 : (Q ++ [(32 : UInt8)]).length = Q.length + 1 := by simp
            rw [hq1] at hPut
            clear hq1
            have Htj := Lib.hid (show P ++ pieceE x (j + 1) = Q ++ [32] ++ digits v by rw [hst, ← hQ]; simp)
            have HPut := Lib.hid hPut
            clear hst hPut Ho3 Ho4 hQ hQl hpl hpl1
            go_wp2_with (first
              | (at_builtin; refine wpList_app rfl (.tmp 27) (.tmp 28) 25 25 rfl hE (HO4.out.alloc _) rfl rfl (srcOne Try.underlying25 _ _ _ _ rfl) (by simp [maxLen]; omega) (by omega) ?_; intro ao4 cap4 g4 W4 ho4 hg4 hon4; have ho4' : Own W4 ao4 cap4 g4 5 1 (Q.length + 1) (byteVals (Q ++ [32])) := (by simpa [byteVals] using ho4); have Ho5 := Lib.hid ho4'; have Hg4 := Lib.hid hg4; have Hon4 := Lib.hid hon4; clear ho4 hg4 hon4 ho4')
              | (go_at_call 58; refine (HPut.out W4 ao4 cap4 g4 Ho5.out).mono ?_; rintro e W5 ⟨ao5, cap5, g5, rfl, ho5, hg5, hon5⟩))
            have hG4 : ∀ k, g4 = some k → w.heap.size ≤ k := fun k h => by
              rcases Hg4.out with rfl | rfl
              · exact Hg3.out k h
              · cases h; simp; omega
            have hB4 : Below w.heap.size w W4 := (HB3.out.alloc hs _).trans (Hon4.out.below (by simp; omega) (fun k hk e => by have := Hg3.out k e; omega))
            have e5 : (Q ++ [(32 : UInt8)] ++ digits v).length = Q.length + 1 + (digits v).length := by simp; omega
            refine ⟨⟨j + 1, by omega, by go_num, ao5, cap5, g5, by rw [Htj.out, e5], by rw [Htj.out, e5]; exact ho5, fun k hk => ?_, hB4.trans (hon5.below hB4.size (fun k hk e => by have := hG4 k e; omega))⟩, by simp [intOf]; omega⟩
            rcases hg5 k hk with h | h
            · exact hG4 k h
            · have := hB4.size; omega
          · have hgt : decide ((0 : Int) < (j : Int)) = false := decide_eq_false (by omega)
            rw [if_neg h0, List.append_nil] at hst
            have hPut := put_any Q v (by omega) (by omega)
            have Htj := Lib.hid (show P ++ pieceE x (j + 1) = Q ++ digits v by rw [hst, ← hQ]; simp)
            have HPut := Lib.hid hPut
            clear hst hPut Ho3 Ho4 hQ hQl hpl hpl1
            go_wp2_with (go_at_call 58; refine (HPut.out _ _ _ _ HO4.out).mono ?_; rintro e W5 ⟨ao5, cap5, g5, rfl, ho5, hg5, hon5⟩)
            have e5 : (Q ++ digits v).length = Q.length + (digits v).length := by simp
            refine ⟨⟨j + 1, by omega, by go_num, ao5, cap5, g5, by rw [Htj.out, e5], by rw [Htj.out, e5]; exact ho5, fun k hk => ?_, HB3.out.trans (hon5.below hs (fun k hk e => by have := Hg3.out k e; omega))⟩, by simp [intOf]; omega⟩
            rcases hg5 k hk with h | h
            · exact Hg3.out k h
            · omega
        · obtain rfl : j = 3 := by omega
          obtain ⟨Q, hQ⟩ : ∃ Q, P ++ pieceE x 3 = Q := ⟨_, rfl⟩
          have hQl := congrArg List.length hQ
          have hpl := Hpl.out 3 (by omega)
          simp only [List.length_append] at hQl
          have Ho4 := Ho3.out
          rw [hQ] at Ho4
          have HO4 := Lib.hid Ho4
          have hQle : Q.length ≤ 1073741700 := by omega
          have HQ := Lib.hid hQ
          rw [hQ]
          clear Ho4 Ho3 hQ hQl hpl
          go_wp2_with (at_builtin; refine wpList_app rfl (.tmp 35) (.tmp 36) 25 25 rfl hE (HO4.out.alloc _) rfl rfl (srcOne Try.underlying25 _ _ _ _ rfl) (by simp [maxLen]; omega) (by omega) ?_; intro ao4 cap4 g4 W4 ho4 hg4 hon4; have Ho5 := Lib.hid ho4; have Hg4 := Lib.hid hg4; have Hon4 := Lib.hid hon4; clear ho4 hg4 hon4)
          have hT : printE (l.take (k + 1)) = Q ++ [10] := by rw [Htk.out, ← HQ.out, lineE]; simp [pieceE]
          refine ⟨⟨k + 1, by omega, by go_num, ao4, cap4, g4, by rw [hT]; simp, by rw [hT]; simpa [byteVals] using Ho5.out, fun k h => ?_, (HB3.out.alloc hs _).trans (Hon4.out.below (by simp; omega) (fun k hk e => by have := Hg3.out k e; omega))⟩, by simp [intOf]; omega⟩
          rcases Hg4.out with rfl | rfl
          · exact Hg3.out k h
          · cases h; simp; omega
    · obtain rfl : k = l.length := by omega
      have hpe : printE (l.take l.length) = printE l := by rw [List.take_length]
      rw [hpe] at Ho ⊢
      clear hpe
      go_wp2_with fail
      go_ret
      exact ⟨ao', cap', g, rfl, Ho.out, Hg.out, HB.out⟩

set_option maxRecDepth 100000 in
set_option maxHeartbeats 1600000 in
theorem eline_any (x0 x1 x2 : Nat) (h0 : x0 < 4294967296) (h1 : x1 < 4294967296) (h2 : x2 < 4294967296) (w : World) :
    Calls Try.prog 36 #[.agg #[.int .u32 (x0 : Nat), .int .u32 (x1 : Nat), .int .u32 (x2 : Nat)]] w fun e w' => e = .returned (.string (bs (lineE (x0, x1, x2)))) ∧ Below w.heap.size w w' := by
  have l0 := digits_len x0 10 (by omega) (by omega)
  have l1 := digits_len x1 10 (by omega) (by omega)
  have l2 := digits_len x2 10 (by omega) (by omega)
  have hT : lineE (x0, x1, x2) = digits x0 ++ [32] ++ digits x1 ++ [32] ++ digits x2 ++ [10] := by simp [lineE, bodyE]
  have p0 := fun W => rput_any x0 (by omega) W
  have p1 := fun W => rput_any x1 (by omega) W
  have p2 := fun W => rput_any x2 (by omega) W
  rw [hT]
  generalize digits x0 = d0 at l0 p0 ⊢
  generalize digits x1 = d1 at l1 p1 ⊢
  generalize digits x2 = d2 at l2 p2 ⊢
  have a1 := str_add d0 [32] (by simp; omega)
  have a2 := str_add (d0 ++ [32]) d1 (by simp; omega)
  have a3 := str_add (d0 ++ [32] ++ d1) [32] (by simp; omega)
  have a4 := str_add (d0 ++ [32] ++ d1 ++ [32]) d2 (by simp; omega)
  have a5 := str_add (d0 ++ [32] ++ d1 ++ [32] ++ d2) [10] (by simp; omega)
  simp only [show bs [32] = ⟨#[32]⟩ from rfl, show bs [10] = ⟨#[10]⟩ from rfl] at a1 a2 a3 a4 a5
  generalize hs1 : bs (d0 ++ [32]) = s1 at a1 a2
  generalize hs2 : bs (d0 ++ [32] ++ d1) = s2 at a2 a3
  generalize hs3 : bs (d0 ++ [32] ++ d1 ++ [32]) = s3 at a3 a4
  generalize hs4 : bs (d0 ++ [32] ++ d1 ++ [32] ++ d2) = s4 at a4 a5
  generalize bs (d0 ++ [32] ++ d1 ++ [32] ++ d2 ++ [10]) = s5 at a5 ⊢
  clear hs1 hs2 hs3 hs4
  have wu0 : IntKind.u64.wrap (x0 : Int) = x0 := by simp [IntKind.wrap, IntKind.bits, IntKind.signed]; omega
  have wu1 : IntKind.u64.wrap (x1 : Int) = x1 := by simp [IntKind.wrap, IntKind.bits, IntKind.signed]; omega
  have wu2 : IntKind.u64.wrap (x2 : Int) = x2 := by simp [IntKind.wrap, IntKind.bits, IntKind.signed]; omega
  have P0 := Lib.hid p0
  have P1 := Lib.hid p1
  have P2 := Lib.hid p2
  clear p0 p1 p2 hT
  go_enter Try.func36, Try.ntmps36
  go_wp2_with fail
  obtain ⟨wA, hwA⟩ : ∃ x, w.alloc (Obj.cells #[Value.int IntKind.u32 (x0 : Nat), Value.int IntKind.u32 (x1 : Nat), Value.int IntKind.u32 (x2 : Nat)] 24) = x := ⟨_, rfl⟩
  have c0 : wA.cell? ⟨w.heap.size, 0, none⟩ = some (.int .u32 (x0 : Nat)) := by rw [← hwA]; simp [go_sem]
  have c1 : wA.cell? ⟨w.heap.size, 1, none⟩ = some (.int .u32 (x1 : Nat)) := by rw [← hwA]; simp [go_sem]
  have c2 : wA.cell? ⟨w.heap.size, 2, none⟩ = some (.int .u32 (x2 : Nat)) := by rw [← hwA]; simp [go_sem]
  have hBA : Below w.heap.size w wA := by rw [← hwA]; exact ext_alloc w _
  have hszA : w.heap.size < wA.heap.size := by rw [← hwA]; simp
  have HBA := Lib.hid hBA
  rw [hwA]
  clear hwA hBA
  go_region_held3 (fun w' => w'.cell? ⟨w.heap.size, 0, none⟩ = some (.int .u32 (x0 : Nat)) ∧ w'.cell? ⟨w.heap.size, 1, none⟩ = some (.int .u32 (x1 : Nat)) ∧ w'.cell? ⟨w.heap.size, 2, none⟩ = some (.int .u32 (x2 : Nat))) (first | exact ⟨y0, y1, y2⟩ | go_keep)
    (first
      | (go_at_call 57; (with_reducible refine (P0.out _).mono ?_); rintro e w1 ⟨rfl, hB1⟩; have y0 := ((bcell hB1).1 w.heap.size 0 (by simp; omega)).trans (show _ = some (Value.int .u32 (x0 : Nat)) by simp [*]); have y1 := ((bcell hB1).1 w.heap.size 1 (by simp; omega)).trans (show _ = some (Value.int .u32 (x1 : Nat)) by simp [*]); have y2 := ((bcell hB1).1 w.heap.size 2 (by simp; omega)).trans (show _ = some (Value.int .u32 (x2 : Nat)) by simp [*]); have HB1 := Lib.hid hB1; clear hB1)
      | (go_at_call 57; (with_reducible refine (P1.out _).mono ?_); rintro e w2 ⟨rfl, hB2⟩; have hz := HB1.out.size; simp at hz; have y0 := ((bcell hB2).1 w.heap.size 0 (by omega)).trans y0; have y1 := ((bcell hB2).1 w.heap.size 1 (by omega)).trans y1; have y2 := ((bcell hB2).1 w.heap.size 2 (by omega)).trans y2; have HB2 := Lib.hid hB2; clear hB2)
      | (go_at_call 57; (with_reducible refine (P2.out _).mono ?_); rintro e w3 ⟨rfl, hB3⟩; have hz2 := HB2.out.size; have y0 := ((bcell hB3).1 w.heap.size 0 (by omega)).trans y0; have y1 := ((bcell hB3).1 w.heap.size 1 (by omega)).trans y1; have y2 := ((bcell hB3).1 w.heap.size 2 (by omega)).trans y2; have HB3 := Lib.hid hB3; clear hB3))
  go_wp2
  go_ret
  exact ⟨rfl, ext_trans (ext_trans (ext_trans (ext_trans HBA.out (ext_drew _)) HB1.out) HB2.out) HB3.out⟩
end Go.Proofs.Ytafbjkbdfdeacaa
