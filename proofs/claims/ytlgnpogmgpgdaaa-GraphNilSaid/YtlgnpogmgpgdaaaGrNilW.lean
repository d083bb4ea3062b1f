/- GraphNil: the walk. -/
import Derived.Test.YtlgnpogmgpgdaaaBdGrR
namespace Go.Proofs.Ytlgnpogmgpgdaaa
set_option linter.unusedSimpArgs false
set_option linter.unusedVariables false
set_option maxRecDepth 100000
open Go.RowKit

set_option maxRecDepth 100000 in
set_option maxHeartbeats 3200000 in
theorem grnil_walk (v tv : Nat) (w : World) : Calls Try.prog 9 #[.int .u32 (v : Nat), .int .u32 (tv : Nat)] w (RetB (.bool true) w) := by
  have hF := FitG.nil
  have HL := Lib.hid (fun W => (show Calls Try.prog 27 #[.pointer none] W fun e w' => e = .returned (.int .i64 0) ∧ w' = W from glen_any none [] (fun _ => False) W rfl))
  have HA := Lib.hid (fun W => (show Calls Try.prog 29 #[.pointer none, .int .u32 (v : Nat)] W (OwnArcs [] W) from garcs_any none [] v (fun _ => False) W hF.len hF.arcs hF.pair rfl))
  have HN := Lib.hid (fun W => (show Calls Try.prog 30 #[.pointer none, .int .u32 (v : Nat), .int .u32 (tv : Nat)] W (RetB (.bool false) W) from gnear_any none [] v tv (fun _ => False) W hF.len hF.near hF.pair rfl))
  have HR := Lib.hid (fun W => (show Calls Try.prog 26 #[.pointer none] W (RowsOwn [] W) from lrows_any none [] (fun _ => False) W hF.len hF.rows rfl (fun _ h => h.elim)))
  have HE := Lib.hid (fun W => (show Calls Try.prog 33 #[.pointer none] W (EdgesOwn [] W) from gedges_any none [] (fun _ => False) W hF.len hF.each (by simp [edgesM]) rfl (fun _ h => h.elim)))
  have HV := Lib.hid (fun W => (show Calls Try.prog 36 #[.pointer none] W (VertsRet [] W) from gverts_any none [] (fun _ => False) W hF.len hF.vert hF.raw rfl (fun _ h => h.elim)))
  go_enter Try.func9, Try.ntmps9
  go_wp2_with (first
    | (go_at_call 27; (with_reducible refine (HL.out _).mono ?_); rintro e w1 ⟨rfl, hw1⟩; obtain rfl : w = w1 := hw1.symm; clear hw1)
    | (go_at_call 29; (with_reducible refine (HA.out _).mono ?_); rintro e w2 ⟨a, c, g, rfl, _, _, h2⟩; have B2 := Lib.hid h2; clear h2)
    | (go_at_call 30; (with_reducible refine (HN.out _).mono ?_); rintro e w3 ⟨rfl, h2⟩; have B3 := Lib.hid (B2.out.trans (h2.mono B2.out.size)); clear h2)
    | (go_at_call 26; (with_reducible refine (HR.out _).mono ?_); rintro e w4 ⟨a2, c2, g2, fe, rfl, _, _, _, h2⟩; have B4 := Lib.hid (B3.out.trans (h2.mono B3.out.size)); clear h2)
    | (go_at_call 33; (with_reducible refine (HE.out _).mono ?_); rintro e w5 ⟨a3, c3, g3, rfl, _, _, h2⟩; have B5 := Lib.hid (B4.out.trans (h2.mono B4.out.size)); clear h2)
    | (go_at_call 36; (with_reducible refine (HV.out _).mono ?_); rintro e w6 ⟨a4, c4, rfl, _, h2⟩; have B6 := Lib.hid (B5.out.trans (h2.mono B5.out.size)); clear h2)
    | (go_at_call 23; (with_reducible refine (awake15_any _).mono ?_); rintro e w7 ⟨rfl, h2⟩; have B7 := Lib.hid (B6.out.trans (h2.mono B6.out.size)); clear h2))
  go_ret
  exact ⟨rfl, B7.out⟩
end Go.Proofs.Ytlgnpogmgpgdaaa
