/- heap.Fix at the worst one of *kept. -/
import Derived.Handy
import Derived.Test.YtggcmnjllkncaaaBestDown
namespace Go.Proofs.Ytggcmnjllkncaaa
set_option linter.unusedSimpArgs false
set_option linter.unusedVariables false
set_option maxRecDepth 100000
open Go.RowKit

theorem upV_zero {A : List VisD} (h : hpV A) : upV A 0 := ⟨fun k h1 h2 _ => h k h1 h2, fun h0 => absurd h0 (by omega)⟩
set_option maxRecDepth 100000 in
set_option maxHeartbeats 3200000 in
theorem hfix_any (A : List VisD) (t : Nat) (mv : Value) (b cap : Nat) (w : World) (hl : A.length ≤ 1000000) (h1 : 0 < A.length) (hu : dnV A 0) (hK : KeptAt w t mv b cap A) :
    Calls Try.prog 20 #[.iface 44 (.pointer (some ⟨t, 1, none⟩)), .int .i64 (0 : Nat)] w fun e w' => e = .returned (.tuple #[]) ∧ HeapRet A t mv b cap w w' := by
  have hm := meth_len w t b A.length cap hK.cell
  have hlen := klen_any (some ⟨b, 0, none⟩) A.length cap w
  have hdn := hdown_any A 0 t mv b cap w hl (by omega) hu hK
  have HL := Lib.hid hl
  have H1 := Lib.hid h1
  clear hK hu hl h1
  go_enter Try.func20, Try.ntmps20
  go_wp2_with (first
    | (refine hlen.mono ?_; rintro e w2 ⟨rfl, rfl⟩; clear hlen)
    | (refine hdn.mono ?_; rintro e w2 ⟨⟨bv, rfl⟩, A', hp', hh', hK', ho'⟩; clear hdn; have Hp := Lib.hid hp'; have Hh := Lib.hid hh'; have HK := Lib.hid hK'; have Ho := Lib.hid ho'; clear hp' hh' hK' ho'; have hup := hup_any A' 0 t mv b cap w2 (by rw [Hp.out.length_eq]; exact HL.out) (by rw [Hp.out.length_eq]; exact H1.out) (upV_zero Hh.out) HK.out)
    | (refine hup.mono ?_; rintro e w3 ⟨rfl, hR⟩; clear hup; have HR := Lib.hid hR; clear hR))
  · go_end0
    obtain ⟨A2, hp2, hh2, hk2, ho2⟩ := HR.out
    exact ⟨rfl, A2, hp2.trans Hp.out, hh2, hk2, Ho.out.trans ho2 (fun _ _ e => e)⟩
  · go_end0
    exact ⟨rfl, A', Hp.out, Hh.out, HK.out, Ho.out⟩
end Go.Proofs.Ytggcmnjllkncaaa
