/- WalkerPuts: the walk. -/
import Derived.Test.YtiojilibkdbpdaaWkAll
import Derived.Test.YtiojilibkdbpdaaStrW
import Derived.Test.YtiojilibkdbpdaaWkAwake
import Derived.Deep.RegionWith
namespace Go.Proofs.Ytiojilibkdbpdaa
set_option linter.unusedSimpArgs false
set_option linter.unusedVariables false
set_option maxRecDepth 100000
open Go.RowKit

set_option maxRecDepth 100000 in
set_option maxHeartbeats 6400000 in
theorem puts20_walk (B : List UInt8) (l : List WkD) (hok : ∀ x ∈ l, WkOk x) (ao bo : Option Addr) (ca cb : Nat) (w : World) (hr : Rd w ao B.length (byteVals B)) (hrd : RdS Rep.wk (fun b => b < w.heap.size) w bo l) :
    Calls Try.prog 5 #[.slice ao B.length ca, .slice bo l.length cb] w (RetB (.bool true) w) := by
  have HA := Lib.hid awake20_any
  by_cases h1 : 100 < B.length
  · have d1 : decide ((100 : Int) < (B.length : Int)) = true := decide_eq_true (by omega)
    have d1' : decide (100 < B.length) = true := decide_eq_true (by omega)
    clear hr hrd hok h1
    go_enter Try.func5, Try.ntmps5
    go_wp2_with (go_at_call 12; refine (HA.out _).mono ?_; rintro e w8 ⟨rfl, hB⟩; have HB := Lib.hid hB; clear hB)
    go_ret
    exact ⟨rfl, HB.out⟩
  have d1 : decide ((100 : Int) < (B.length : Int)) = false := decide_eq_false (by omega)
  have d1' : decide (100 < B.length) = false := decide_eq_false (by omega)
  by_cases h2 : 100 < l.length
  · have d2 : decide ((100 : Int) < (l.length : Int)) = true := decide_eq_true (by omega)
    have d2' : decide (100 < l.length) = true := decide_eq_true (by omega)
    clear hr hrd hok h1 h2
    go_enter Try.func5, Try.ntmps5
    go_wp2_with (go_at_call 12; refine (HA.out _).mono ?_; rintro e w8 ⟨rfl, hB⟩; have HB := Lib.hid hB; clear hB)
    go_ret
    exact ⟨rfl, HB.out⟩
  have d2 : decide ((100 : Int) < (l.length : Int)) = false := decide_eq_false (by omega)
  have d2' : decide (100 < l.length) = false := decide_eq_false (by omega)
  have hE := u8Elem
  have ho0 := Lib.hid (Own.emptyAt w 5 1 w.heap.size rfl)
  have hsrc : Src Try.prog 1 39 (.slice ao B.length ca) B.length (byteVals B) (w.alloc (.cells #[] 5)) := (hr.ext (ext_alloc _ _)).src Try.underlying39 ca (byteVals_one B)
  have Hr := Lib.hid hr
  have Hrd := Lib.hid hrd
  have hbl : B.length ≤ 100 := by omega
  have hll : l.length ≤ 100 := by omega
  have HP := Lib.hid (fun a c g W ho hf hrd => wput_any l B (by omega) (by omega) a bo c cb g (fun b => b < w.heap.size) W ho hrd hf)
  clear hr hrd h1 h2
  go_enter Try.func5, Try.ntmps5
  go_upto_region 4 with (first
    | (at_builtin; refine wpList_app rfl (.tmp 17) (.tmp 18) 39 39 rfl hE ho0.out rfl rfl hsrc (by simp [maxLen]; omega) (by omega) ?_; intro ao1 cap1 g1 w1 ho1 hg1 hon1; simp only [Nat.zero_add, List.nil_append] at ho1 ⊢; have Ho1 := Lib.hid ho1; have Hg1 := Lib.hid hg1; have hB1 : Below w.heap.size w w1 := (ext_alloc w _).trans (hon1.below (by simp) (fun k hk e => by cases e; omega)); have HB1 := Lib.hid hB1; clear ho1 hg1 hon1 hB1)
    | (go_at_call 20; refine (HP.out _ _ _ _ Ho1.out (fun b hb _ e => by rcases Hg1.out with h | h <;> rw [h] at e <;> cases e <;> simp at hb <;> omega) (Hrd.out.ext HB1.out)).mono ?_; rintro e w2 ⟨v2, rfl, ao2, cap2, g2, rfl, ho2, hg2, hon2⟩; have Ho2 := Lib.hid ho2; have Hg2 := Lib.hid hg2; have hB2 : Below w.heap.size w w2 := HB1.out.trans (hon2.below HB1.out.size (fun k hk e => by rcases Hg1.out with h | h <;> rw [h] at e <;> cases e <;> simp at hk <;> omega)); have HB2 := Lib.hid hB2; clear ho2 hg2 hon2 hB2))
  have hM := Lib.hid (manyB_len l)
  have HMn := Lib.hid (fun W (h : Below w.heap.size w W) => rmany_any l (by omega) bo cb _ W (Hrd.out.ext h))
  have HAl := Lib.hid (fun a n cap W (hn : n = (manyB l).length) (hc : n ≤ cap) (h : Rd W a n (byteVals (manyB l))) => (show Calls Try.prog 22 #[.slice a n cap] W (AllRet l (.int .i64 0) W) from by
    subst hn
    have h2 := wall_any (manyB l) a cap W (by rw [manyB_len]; omega) hc h
    unfold WAllRet at h2
    rw [manyB_len, if_pos (by omega), if_pos (by omega), show 28 * l.length / 28 = l.length from by omega] at h2
    have h3 := readMany_manyB hok []
    rw [List.append_nil] at h3
    rw [h3] at h2
    rw [manyB_len]
    exact h2))
  have HSm := Lib.hid (fun a c fa W (ha : RdS Rep.wk fa W a l) (hb : RdS Rep.wk (fun b => b < w.heap.size) W bo l) => wsame_any l a bo c cb fa _ W (by omega) ha hb)
  have Hadd := Lib.hid (str_addS B (manyB l) (by rw [manyB_len]; omega))
  have hcap2 := Ho2.out.capLe
  obtain ⟨M, hMe⟩ : ∃ M, manyB l = M := ⟨_, rfl⟩
  rw [hMe] at hcap2 Ho2 hM HMn HAl Hadd ⊢
  have Hx := Lib.hid (fun W (h : Below w2.heap.size w2 W) => ((Ho2.out.rd.ext h).convS rfl cap2))
  have Hb := Lib.hid (fun W (h : Below w2.heap.size w2 W) => (((Hr.out.ext HB2.out).ext h).convS rfl ca))
  rw [List.length_append] at Hx hcap2
  obtain ⟨a3, hs3, hr3⟩ := drop_run ao2 (B.length + M.length) cap2 B.length (by omega) hcap2.1 (B.length : Int) rfl
  have HR3 := Lib.hid (show Rd w2 a3 (B.length + M.length - B.length) (byteVals M) from by
    have h := Ho2.out.rd
    rw [List.length_append] at h
    have h2 := hr3 _ _ h
    rw [show (byteVals (B ++ M)).drop B.length = byteVals M from by rw [← byteVals_drop, List.drop_left]] at h2
    exact h2)
  have Hc3 := Lib.hid (show B.length + M.length - B.length ≤ cap2 - B.length by omega)
  have HM3 := Lib.hid (show B.length + M.length - B.length = M.length by omega)
  have hc3' := Hc3.out
  rw [Nat.add_sub_cancel_left] at hs3 HR3 hc3'
  have Hc3 := Lib.hid hc3'
  clear hcap2 hr3 hMe hc3' HM3
  have hx := Hx.out _ (ext_drew w2)
  have hb := Hb.out _ (ext_drew w2)
  have hadd := Hadd.out
  go_cut [30] (fun v30 wx => v30 = .bool false ∧ Below w2.heap.size w2 wx)
  case first =>
    go_region_with (first
      | (go_at_call 21; refine (HMn.out _ (HB2.out.trans ((ext_drew w2).mono HB2.out.size))).mono ?_; rintro e w3 ⟨a4, c4, g4, rfl, ho4, hg4, hB4⟩; have hB3 := (ext_drew w2).trans hB4; have HB3 := Lib.hid hB3; have hx3 := Hx.out _ hB3; have hb3 := Hb.out _ hB3; have hm3 := ho4.rd.convS rfl c4; clear ho4 hg4 hB4 hB3))
    all_goals
      go_wp2_with fail
      go_meet
      exact ⟨rfl, HB3.out⟩
  case rest =>
    obtain ⟨rfl, hB3⟩ := hcut
    rename World => w3
    have HB3 := Lib.hid hB3
    clear hx hb hadd hB3
    have HA3 := Lib.hid (HAl.out a3 M.length (cap2 - B.length) w3 rfl Hc3.out (HR3.out.ext HB3.out))
    go_wp2_with (first
      | (go_at_call 22; (with_reducible refine HA3.out.mono ?_); rintro e w5 ⟨a5, c5, f5, rfl, hr5, hf5, hB5⟩; have HR5 := Lib.hid hr5; have HB5 := Lib.hid (HB2.out.trans ((HB3.out.trans (hB5.mono HB3.out.size)).mono HB2.out.size)); clear hr5 hf5 hB5)
      | (go_at_call 23; (with_reducible refine (HSm.out _ _ _ _ HR5.out (Hrd.out.ext HB5.out)).mono ?_); rintro e w6 ⟨rfl, hB6⟩; have HB6 := Lib.hid (HB5.out.trans (hB6.mono HB5.out.size)); clear hB6)
      | (go_at_call 12; refine (HA.out _).mono ?_; rintro e w8 ⟨rfl, hB⟩; have HB8 := Lib.hid (HB6.out.trans (hB.mono HB6.out.size)); clear hB))
    trace_state
    go_ret
    exact ⟨rfl, HB8.out⟩
end Go.Proofs.Ytiojilibkdbpdaa
