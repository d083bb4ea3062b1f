/- palmerlaw12.EdgeJoins: the walk. -/
import Derived.Test.YtafbjkbdfdeacaaEdgeLaw1
import Derived.Test.YtafbjkbdfdeacaaEdgeApp
namespace Go.Proofs.Ytafbjkbdfdeacaa
set_option linter.unusedSimpArgs false
set_option linter.unusedVariables false
open Go.RowKit

theorem w64 {n : Int} (h0 : 0 ≤ n) (h1 : n ≤ 1000000) : wrap64 n = n := by unfold wrap64; omega
def cntI (F : List UInt8) (w : World) (s i : Value) (wr : World) : Prop := ∃ k : Nat, k ≤ F.length ∧ i = .int .i64 (k : Nat) ∧ s = .int .i64 (((F.take k).countP (· == 10) : Nat) : Int) ∧ wr = w
theorem countP_take (F : List UInt8) (k : Nat) (h : k < F.length) : (F.take (k + 1)).countP (· == 10) = (F.take k).countP (· == 10) + if F[k] == 10 then 1 else 0 := by
  rw [List.take_succ_eq_append_getElem h, List.countP_append]
  simp [List.countP_cons]

set_option maxRecDepth 100000 in
set_option maxHeartbeats 3200000 in
theorem edgeJoins_walk (a b : List UInt8) (ao bo : Option Addr) (ca cb : Nat) (w : World) (ha : Rd w ao a.length (byteVals a)) (hb : Rd w bo b.length (byteVals b)) (hbc : b.length ≤ cb) (hbm : cb ≤ maxLen) :
    Calls Try.prog 11 #[.slice ao a.length ca, .slice bo b.length cb] w fun e w' => e = .returned (.bool true) ∧ Below w.heap.size w w' := by
  by_cases hl : 2000 < a.length ∨ 2000 < b.length
  · have hd : (decide ((2000 : Int) < a.length) || decide ((2000 : Int) < b.length)) = true := by simp; omega
    clear ha hb
    rcases Nat.lt_or_ge 2000 a.length with h | h
    · have hd1 : decide ((2000 : Int) < a.length) = true := by simp; omega
      go_enter Try.func11, Try.ntmps11
      go_wp2_with (go_at_call 29; refine (awake12_any _).mono ?_; rintro e w1 ⟨rfl, hB1⟩)
      go_ret
      exact ⟨rfl, hB1⟩
    · have hd1 : decide ((2000 : Int) < a.length) = false := by simp; omega
      have hd2 : decide ((2000 : Int) < b.length) = true := by simp; omega
      go_enter Try.func11, Try.ntmps11
      go_wp2_with (go_at_call 29; refine (awake12_any _).mono ?_; rintro e w1 ⟨rfl, hB1⟩)
      go_ret
      exact ⟨rfl, hB1⟩
  · have hd1 : decide ((2000 : Int) < a.length) = false := by simp; omega
    have hd2 : decide ((2000 : Int) < b.length) = false := by simp; omega
    have hE := bytesElem
    have ho0 := Own.emptyAt w 5 1 w.heap.size rfl
    have hsa : Src Try.prog 1 25 (.slice ao a.length ca) a.length (byteVals a) (w.alloc (.cells #[] 5)) := (ha.ext (ext_alloc _ _)).src Try.underlying25 ca (byteVals_one a)
    have hFl : (a ++ [10]).length = a.length + 1 := by simp
    have hR1 := fun ao1 cap1 W => eread_any (a ++ [10]) (by rw [hFl]; omega) ao1 cap1 W
    have hR2 := fun (W : World) (hB : Below w.heap.size w W) => eread_any b (by omega) bo cb W (hb.ext hB) hbc hbm
    have hR3 := fun ao1 cap1 W => eread_any (a ++ 10 :: b) (by simp; omega) ao1 cap1 W
    have hcnt := lines_count a
    have happ := readE_app (lines (a ++ [10])) (lines b)
    have hz1 : (readE (lines (a ++ [10]))).1.length ≤ 2001 := by
      have h1 := lines_len (a ++ [10])
      rcases readE_shift (lines (a ++ [10])) [] 0 with ⟨_, _, _, h⟩ | ⟨_, h, _⟩
      · omega
      · rw [h]; simp
    have hz2 : (readE (lines b)).1.length ≤ 2000 := by
      have h1 := lines_len b
      rcases readE_shift (lines b) [] 0 with ⟨_, _, _, h⟩ | ⟨_, h, _⟩
      · omega
      · rw [h]; simp
    have hz5 : (readE (lines b)).2.1 ≤ 2000 := by
      have h1 := lines_len b
      rcases readE_shift (lines b) [] 0 with ⟨_, h, _⟩ | ⟨_, _, _, h, _⟩
      · omega
      · omega
    have hz3 : (readE (lines (a ++ [10]))).2.2 = 0 → (readE (lines (a ++ [10]))).2.1 = 0 := fun h0 => by
      rcases readE_shift (lines (a ++ [10])) [] 0 with ⟨_, h, _⟩ | ⟨h, _⟩
      · exact h
      · exact absurd h0 h
    have hz4 : (readE (lines b)).2.2 = 0 → (readE (lines b)).2.1 = 0 := fun h0 => by
      rcases readE_shift (lines b) [] 0 with ⟨_, h, _⟩ | ⟨h, _⟩
      · exact h
      · exact absurd h0 h
    rw [lines_two a b] at hR3
    generalize lines (a ++ [10]) = LA at hR1 hR3 hcnt happ hz1 hz3
    generalize lines b = LB at hR2 hR3 happ hz2 hz4 hz5
    generalize readE (LA ++ LB) = rx at hR3 happ
    generalize readE LA = ra at hR1 happ hz1 hz3
    generalize readE LB = rb at hR2 happ hz2 hz4 hz5
    obtain ⟨l1, n1, e1⟩ := ra
    obtain ⟨l2, n2, e2⟩ := rb
    obtain ⟨l3, n3, e3⟩ := rx
    simp only at happ hz1 hz2 hz3 hz4 hz5
    have hsb : ∀ W, Below w.heap.size w W → Src Try.prog 1 25 (.slice bo b.length cb) b.length (byteVals b) W := fun W hB => (hb.ext hB).src Try.underlying25 cb (byteVals_one b)
    have hab : byteVals a ++ [Value.int IntKind.u8 10] = byteVals (a ++ [10]) := by simp [byteVals]
    have hab2 : byteVals (a ++ [10]) ++ byteVals b = byteVals (a ++ 10 :: b) := by simp [byteVals]
    have hlen3 : (a ++ 10 :: b).length = a.length + 1 + b.length := by simp; omega
    rw [hFl] at hR1
    rw [hlen3] at hR3
    have HR1 := Lib.hid hR1
    have HR2 := Lib.hid hR2
    have HR3 := Lib.hid hR3
    have Hcnt := Lib.hid hcnt
    have Happ := Lib.hid happ
    have Hsa := Lib.hid hsa
    have Hsb := Lib.hid hsb
    have Hab := Lib.hid hab
    have Hab2 := Lib.hid hab2
    have HFl := Lib.hid hFl
    have Ho0 := Lib.hid ho0
    have Hz3 := Lib.hid hz3
    have Hz4 := Lib.hid hz4
    obtain ⟨na, hna⟩ : ∃ n, a.length = n := ⟨_, rfl⟩
    obtain ⟨nb, hnb⟩ : ∃ n, b.length = n := ⟨_, rfl⟩
    rw [hna] at hd1 HR1 HR3 Hsa hl HFl ⊢
    rw [hnb] at hd2 HR2 HR3 Hsb hl ⊢
    have Hna := Lib.hid hna
    have Hnb := Lib.hid hnb
    clear hR1 hR2 hR3 hcnt happ hsa hsb hab hab2 hFl ho0 hlen3 hz3 hz4 hna hnb ha hb hbc hbm
    rcases Happ.out with ⟨h1, h2, h3⟩ | ⟨h1, h2, h3⟩ | ⟨h1, h2, h3⟩
    · cases h2
      subst h3
      have hd3 : ((e1 : Int) != 0) = true := by simp; omega
      have hee : ((e1 : Int) == e1) = true := by simp
      have hnn : ((n1 : Int) == n1) = true := by simp
      clear h1 Happ
      go_enter Try.func11, Try.ntmps11
      go_wp2_with (first
        | (at_builtin; refine wpList_app rfl (.tmp 26) (.tmp 27) 25 25 rfl hE Ho0.out rfl rfl Hsa.out (by simp [maxLen]; omega) (by omega) ?_; intro ao1 cap1 g1 w1 ho1 hg1 hon1; simp only [Nat.zero_add, List.nil_append] at ho1 ⊢; have hB1 : Below w.heap.size w w1 := (ext_alloc w _).trans (hon1.below (by simp) (fun k hk e => by cases e; omega)); have Ho1 := Lib.hid ho1; have HB1 := Lib.hid hB1; have Hg1 := Lib.hid hg1; clear ho1 hg1 hon1 hB1)
        | (at_builtin; refine wpList_app rfl (.tmp 28) (.tmp 29) 25 25 rfl hE (Ho1.out.alloc _) rfl rfl (srcOne Try.underlying25 w1 (.int .u8 10) 5 1 rfl) (by simp [maxLen]; omega) (by omega) ?_; intro ao2 cap2 g2 w2 ho2 hg2 hon2; have hz1' := HB1.out.size; have hB2 : Below w.heap.size w w2 := (HB1.out.alloc hz1' _).trans (hon2.below (by simp; omega) (fun k hk e => by rcases Hg1.out with h | h <;> rw [h] at e <;> cases e <;> simp at hk <;> omega)); rw [Hab.out] at ho2; have Ho2 := Lib.hid ho2; have HB2 := Lib.hid hB2; have hG2 : ∀ k, g2 = some k → w.heap.size ≤ k := (fun k h => by rcases hg2 with e | e <;> rw [e] at h <;> first | (rcases Hg1.out with h2 | h2 <;> rw [h2] at h <;> cases h <;> simp) | (cases h; simp; omega)); have HG2 := Lib.hid hG2; clear ho2 hg2 hon2 hB2 hG2)
        | (go_at_call 32; (with_reducible refine (HR1.out _ _ _ Ho2.out.rd Ho2.out.capLe.1 Ho2.out.capLe.2).mono ?_); rintro e w3 ⟨a3, c3, rfl, h1, h2, hr3, hB3⟩; have HB3 := Lib.hid hB3; have Hr3 := Lib.hid hr3; clear h1 h2 hr3 hB3)
        | (go_at_call 32; (with_reducible refine (HR2.out _ (HB2.out.trans (HB3.out.mono HB2.out.size))).mono ?_); rintro e w4 ⟨a4, c4, rfl, h1, h2, hr4, hB4⟩; have HB4 := Lib.hid hB4; have Hr4 := Lib.hid hr4; clear h1 h2 hr4 hB4)
        | (at_builtin; refine wpList_app2 rfl (.tmp 44) (.tmp 45) 25 25 rfl hE (Ho2.out.ext (ext_trans HB3.out HB4.out)) rfl rfl (Hsb.out _ (ext_trans HB2.out (ext_trans HB3.out HB4.out))) (by simp [maxLen]; omega) (by omega) ?_; intro ao5 cap5 g5 w5 ho5 hg5 hon5; obtain ⟨bf, rfl, hbf, hfc⟩ := app2_old (Ho2.out.ext (ext_trans HB3.out HB4.out)) ho5 hg5 (by omega); have hB24 := ext_trans HB2.out (ext_trans HB3.out HB4.out); have hB5 : Below w.heap.size w w5 := hB24.trans (hon5.below hB24.size (fun k hk e => by have := HG2.out k e; omega)); rw [Hab2.out] at ho5; have hs5 := hon5.size; have Ho5 := Lib.hid ho5; have Hon5 := Lib.hid hon5; have HB5 := Lib.hid hB5; have Hfc := Lib.hid hfc; clear ho5 hg5 hon5 hfc hB24 hB5)
        | (go_at_call 32; (with_reducible refine (HR3.out _ _ _ Ho5.out.rd Ho5.out.capLe.1 Ho5.out.capLe.2).mono ?_); rintro e w6 ⟨a6, c6, rfl, h1, h2, hr6, hB6⟩; have HB6 := Lib.hid hB6; have Hr6 := Lib.hid hr6; have Hc6 := Lib.hid h1; clear h1 h2 hr6 hB6)
        | (go_at_call 29; refine (awake12_any _).mono ?_; rintro e w9 ⟨rfl, hB9⟩))
      go_ret
      exact ⟨rfl, ext_trans (ext_trans HB5.out HB6.out) hB9⟩
    · cases h3
      have hd3 : ((e1 : Int) != 0) = false := by simp [h1]
      have hd4 : ((e2 : Int) != 0) = true := by simp; omega
      have hee : ((e2 : Int) == e2) = true := by simp
      clear h1 h2 Happ
      go_enter Try.func11, Try.ntmps11
      go_wp2_with (first
        | (at_builtin; refine wpList_app rfl (.tmp 26) (.tmp 27) 25 25 rfl hE Ho0.out rfl rfl Hsa.out (by simp [maxLen]; omega) (by omega) ?_; intro ao1 cap1 g1 w1 ho1 hg1 hon1; simp only [Nat.zero_add, List.nil_append] at ho1 ⊢; have hB1 : Below w.heap.size w w1 := (ext_alloc w _).trans (hon1.below (by simp) (fun k hk e => by cases e; omega)); have Ho1 := Lib.hid ho1; have HB1 := Lib.hid hB1; have Hg1 := Lib.hid hg1; clear ho1 hg1 hon1 hB1)
        | (at_builtin; refine wpList_app rfl (.tmp 28) (.tmp 29) 25 25 rfl hE (Ho1.out.alloc _) rfl rfl (srcOne Try.underlying25 w1 (.int .u8 10) 5 1 rfl) (by simp [maxLen]; omega) (by omega) ?_; intro ao2 cap2 g2 w2 ho2 hg2 hon2; have hz1' := HB1.out.size; have hB2 : Below w.heap.size w w2 := (HB1.out.alloc hz1' _).trans (hon2.below (by simp; omega) (fun k hk e => by rcases Hg1.out with h | h <;> rw [h] at e <;> cases e <;> simp at hk <;> omega)); rw [Hab.out] at ho2; have Ho2 := Lib.hid ho2; have HB2 := Lib.hid hB2; have hG2 : ∀ k, g2 = some k → w.heap.size ≤ k := (fun k h => by rcases hg2 with e | e <;> rw [e] at h <;> first | (rcases Hg1.out with h2 | h2 <;> rw [h2] at h <;> cases h <;> simp) | (cases h; simp; omega)); have HG2 := Lib.hid hG2; clear ho2 hg2 hon2 hB2 hG2)
        | (go_at_call 32; (with_reducible refine (HR1.out _ _ _ Ho2.out.rd Ho2.out.capLe.1 Ho2.out.capLe.2).mono ?_); rintro e w3 ⟨a3, c3, rfl, h1, h2, hr3, hB3⟩; have HB3 := Lib.hid hB3; have Hr3 := Lib.hid hr3; clear h1 h2 hr3 hB3)
        | (go_at_call 32; (with_reducible refine (HR2.out _ (HB2.out.trans (HB3.out.mono HB2.out.size))).mono ?_); rintro e w4 ⟨a4, c4, rfl, h1, h2, hr4, hB4⟩; have HB4 := Lib.hid hB4; have Hr4 := Lib.hid hr4; clear h1 h2 hr4 hB4)
        | (at_builtin; refine wpList_app2 rfl (.tmp 44) (.tmp 45) 25 25 rfl hE (Ho2.out.ext (ext_trans HB3.out HB4.out)) rfl rfl (Hsb.out _ (ext_trans HB2.out (ext_trans HB3.out HB4.out))) (by simp [maxLen]; omega) (by omega) ?_; intro ao5 cap5 g5 w5 ho5 hg5 hon5; obtain ⟨bf, rfl, hbf, hfc⟩ := app2_old (Ho2.out.ext (ext_trans HB3.out HB4.out)) ho5 hg5 (by omega); have hB24 := ext_trans HB2.out (ext_trans HB3.out HB4.out); have hB5 : Below w.heap.size w w5 := hB24.trans (hon5.below hB24.size (fun k hk e => by have := HG2.out k e; omega)); rw [Hab2.out] at ho5; have hs5 := hon5.size; have Ho5 := Lib.hid ho5; have Hon5 := Lib.hid hon5; have HB5 := Lib.hid hB5; have Hfc := Lib.hid hfc; clear ho5 hg5 hon5 hfc hB24 hB5)
        | (go_at_call 32; (with_reducible refine (HR3.out _ _ _ Ho5.out.rd Ho5.out.capLe.1 Ho5.out.capLe.2).mono ?_); rintro e w6 ⟨a6, c6, rfl, h1, h2, hr6, hB6⟩; have HB6 := Lib.hid hB6; have Hr6 := Lib.hid hr6; have Hc6 := Lib.hid h1; clear h1 h2 hr6 hB6)
        | (go_at_call 29; refine (awake12_any _).mono ?_; rintro e w9 ⟨rfl, hB9⟩))
      have hbf6 : bf < w6.heap.size := by have := HB6.out.size; omega
      have hfc6 : ∀ j, j < na + 1 → w6.cell? ⟨bf, j, none⟩ = (byteVals (a ++ [10]))[j]? := fun j hj => ((bcell HB6.out).1 bf j (by omega)).trans (Hfc.out j (by omega))
      have Hfc6 := Lib.hid hfc6
      clear hfc6
      go_loopw [15, 16] (fun s i wr => cntI (a ++ [10]) w6 s i wr) (fun _ i _ => na + 1 - (intOf i).toNat)
      case atStart => exact ⟨0, by omega, rfl, by simp, rfl⟩
      case round =>
        obtain ⟨k, hk, rfl, rfl, rfl⟩ := hrel
        rw [HFl.out] at hk
        by_cases hlt : k < na + 1
        · have hir : (k : Int) < (na : Int) + 1 := by omega
          have hkF : k < (a ++ [10]).length := by rw [HFl.out]; exact hlt
          have hck := Hfc6.out k hlt
          have hct := countP_take (a ++ [10]) k hkF
          simp only [byteVals, List.getElem?_map, List.getElem?_eq_getElem hkF, Option.map_some] at hck
          generalize (a ++ [10])[k] = c at hck hct
          have hqk : (List.take k (a ++ [10])).countP (· == 10) ≤ k := Nat.le_trans List.countP_le_length (by rw [List.length_take]; omega)
          have Hct := Lib.hid hct
          clear hct
          by_cases hc : c = 10
          · have hcc : ((c.toNat : Int) == 10) = true := by rw [hc]; rfl
            have h1c : ((List.take (k + 1) (a ++ [10])).countP (· == 10)) = (List.take k (a ++ [10])).countP (· == 10) + 1 := by rw [Hct.out, hc]; rfl
            generalize (List.take k (a ++ [10])).countP (· == 10) = q at h1c hqk ⊢
            have H1c := Lib.hid h1c
            clear h1c hc Hct
            go_wp2_with fail
            exact ⟨⟨k + 1, by rw [HFl.out]; omega, by go_num, by rw [H1c.out]; rfl, rfl⟩, by simp [intOf]; omega⟩
          · have hcc : ((c.toNat : Int) == 10) = false := by
              rw [beq_eq_false_iff_ne]
              intro e
              exact hc (by rw [← UInt8.toNat_inj]; show c.toNat = 10; omega)
            have h1c : ((List.take (k + 1) (a ++ [10])).countP (· == 10)) = (List.take k (a ++ [10])).countP (· == 10) := by rw [Hct.out, if_neg (by simpa using hc)]; rfl
            generalize (List.take k (a ++ [10])).countP (· == 10) = q at h1c hqk ⊢
            have H1c := Lib.hid h1c
            clear h1c hc Hct
            go_wp2_with fail
            exact ⟨⟨k + 1, by rw [HFl.out]; omega, by go_num, by rw [H1c.out], rfl⟩, by simp [intOf]; omega⟩
        · obtain rfl : k = na + 1 := by omega
          have hcnt2 : (List.take (na + 1) (a ++ [10])).countP (· == 10) = LA.length := by rw [← HFl.out, List.take_length, Hcnt.out]
          have hLA : LA.length ≤ na + 1 := by rw [Hcnt.out, ← HFl.out]; exact List.countP_le_length
          rw [hcnt2]
          clear hcnt2
          have hnn : ((LA.length : Int) + (n2 : Int) == wrap64 ((LA.length : Int) + (n2 : Int))) = true := by rw [w64 (by omega) (by omega)]; simp
          go_wp2_with (go_at_call 29; refine (awake12_any _).mono ?_; rintro e w9 ⟨rfl, hB9⟩)
          go_ret
          exact ⟨rfl, ext_trans (ext_trans HB5.out HB6.out) hB9⟩
    · cases h3
      have hd3 : ((e1 : Int) != 0) = false := by simp [h1]
      have hd4 : ((e2 : Int) != 0) = false := by simp [h2]
      clear h1 h2 Happ
      go_enter Try.func11, Try.ntmps11
      go_wp2_with (first
        | (at_builtin; refine wpList_app rfl (.tmp 26) (.tmp 27) 25 25 rfl hE Ho0.out rfl rfl Hsa.out (by simp [maxLen]; omega) (by omega) ?_; intro ao1 cap1 g1 w1 ho1 hg1 hon1; simp only [Nat.zero_add, List.nil_append] at ho1 ⊢; have hB1 : Below w.heap.size w w1 := (ext_alloc w _).trans (hon1.below (by simp) (fun k hk e => by cases e; omega)); have Ho1 := Lib.hid ho1; have HB1 := Lib.hid hB1; have Hg1 := Lib.hid hg1; clear ho1 hg1 hon1 hB1)
        | (at_builtin; refine wpList_app rfl (.tmp 28) (.tmp 29) 25 25 rfl hE (Ho1.out.alloc _) rfl rfl (srcOne Try.underlying25 w1 (.int .u8 10) 5 1 rfl) (by simp [maxLen]; omega) (by omega) ?_; intro ao2 cap2 g2 w2 ho2 hg2 hon2; have hz1' := HB1.out.size; have hB2 : Below w.heap.size w w2 := (HB1.out.alloc hz1' _).trans (hon2.below (by simp; omega) (fun k hk e => by rcases Hg1.out with h | h <;> rw [h] at e <;> cases e <;> simp at hk <;> omega)); rw [Hab.out] at ho2; have Ho2 := Lib.hid ho2; have HB2 := Lib.hid hB2; have hG2 : ∀ k, g2 = some k → w.heap.size ≤ k := (fun k h => by rcases hg2 with e | e <;> rw [e] at h <;> first | (rcases Hg1.out with h2 | h2 <;> rw [h2] at h <;> cases h <;> simp) | (cases h; simp; omega)); have HG2 := Lib.hid hG2; clear ho2 hg2 hon2 hB2 hG2)
        | (go_at_call 32; (with_reducible refine (HR1.out _ _ _ Ho2.out.rd Ho2.out.capLe.1 Ho2.out.capLe.2).mono ?_); rintro e w3 ⟨a3, c3, rfl, h1, h2, hr3, hB3⟩; have HB3 := Lib.hid hB3; have Hr3 := Lib.hid hr3; clear h1 h2 hr3 hB3)
        | (go_at_call 32; (with_reducible refine (HR2.out _ (HB2.out.trans (HB3.out.mono HB2.out.size))).mono ?_); rintro e w4 ⟨a4, c4, rfl, h1, h2, hr4, hB4⟩; have HB4 := Lib.hid hB4; have Hr4 := Lib.hid hr4; clear h1 h2 hr4 hB4)
        | (at_builtin; refine wpList_app2 rfl (.tmp 44) (.tmp 45) 25 25 rfl hE (Ho2.out.ext (ext_trans HB3.out HB4.out)) rfl rfl (Hsb.out _ (ext_trans HB2.out (ext_trans HB3.out HB4.out))) (by simp [maxLen]; omega) (by omega) ?_; intro ao5 cap5 g5 w5 ho5 hg5 hon5; obtain ⟨bf, rfl, hbf, hfc⟩ := app2_old (Ho2.out.ext (ext_trans HB3.out HB4.out)) ho5 hg5 (by omega); have hB24 := ext_trans HB2.out (ext_trans HB3.out HB4.out); have hB5 : Below w.heap.size w w5 := hB24.trans (hon5.below hB24.size (fun k hk e => by have := HG2.out k e; omega)); rw [Hab2.out] at ho5; have hs5 := hon5.size; have Ho5 := Lib.hid ho5; have Hon5 := Lib.hid hon5; have HB5 := Lib.hid hB5; have Hfc := Lib.hid hfc; clear ho5 hg5 hon5 hfc hB24 hB5)
        | (go_at_call 32; (with_reducible refine (HR3.out _ _ _ Ho5.out.rd Ho5.out.capLe.1 Ho5.out.capLe.2).mono ?_); rintro e w6 ⟨a6, c6, rfl, h1, h2, hr6, hB6⟩; have HB6 := Lib.hid hB6; have Hr6 := Lib.hid hr6; have Hc6 := Lib.hid h1; clear h1 h2 hr6 hB6)
        | (go_at_call 29; refine (awake12_any _).mono ?_; rintro e w9 ⟨rfl, hB9⟩))
      have hwl : ((l1.length : Int) + (l2.length : Int) == wrap64 ((l1.length : Int) + (l2.length : Int))) = true := by rw [w64 (by omega) (by omega)]; simp
      have hr36 : RdS edgeRep (fun k => w2.heap.size ≤ k) w6 a3 l1 := ((Hr3.out.ext HB4.out).only Hon5.out (fun b hb hlt e => by have := Ho2.out.lt b e; omega)).ext HB6.out
      have hz3' := HB3.out.size
      have hr46 : RdS edgeRep (fun k => w2.heap.size ≤ k) w6 a4 l2 := ((Hr4.out.mono (fun b hb _ => (by omega : w2.heap.size ≤ b))).only Hon5.out (fun b hb hlt e => by have := Ho2.out.lt b e; omega)).ext HB6.out
      have Hr36 := Lib.hid hr36
      have Hr46 := Lib.hid hr46
      have hc6 : l1.length + l2.length ≤ c6 := by have := Hc6.out; simpa using this
      clear hr36 hr46
      have hbf6 : bf < w6.heap.size := by have := HB6.out.size; omega
      have hfc6 : ∀ j, j < na + 1 → w6.cell? ⟨bf, j, none⟩ = (byteVals (a ++ [10]))[j]? := fun j hj => ((bcell HB6.out).1 bf j (by omega)).trans (Hfc.out j (by omega))
      have Hfc6 := Lib.hid hfc6
      clear hfc6
      go_loopw [15, 16] (fun s i wr => cntI (a ++ [10]) w6 s i wr) (fun _ i _ => na + 1 - (intOf i).toNat)
      case atStart => exact ⟨0, by omega, rfl, by simp, rfl⟩
      case round =>
        obtain ⟨k, hk, rfl, rfl, rfl⟩ := hrel
        rw [HFl.out] at hk
        by_cases hlt : k < na + 1
        · have hir : (k : Int) < (na : Int) + 1 := by omega
          have hkF : k < (a ++ [10]).length := by rw [HFl.out]; exact hlt
          have hck := Hfc6.out k hlt
          have hct := countP_take (a ++ [10]) k hkF
          simp only [byteVals, List.getElem?_map, List.getElem?_eq_getElem hkF, Option.map_some] at hck
          generalize (a ++ [10])[k] = c at hck hct
          have hqk : (List.take k (a ++ [10])).countP (· == 10) ≤ k := Nat.le_trans List.countP_le_length (by rw [List.length_take]; omega)
          have Hct := Lib.hid hct
          clear hct
          by_cases hc : c = 10
          · have hcc : ((c.toNat : Int) == 10) = true := by rw [hc]; rfl
            have h1c : ((List.take (k + 1) (a ++ [10])).countP (· == 10)) = (List.take k (a ++ [10])).countP (· == 10) + 1 := by rw [Hct.out, hc]; rfl
            generalize (List.take k (a ++ [10])).countP (· == 10) = q at h1c hqk ⊢
            have H1c := Lib.hid h1c
            clear h1c hc Hct
            go_wp2_with fail
            exact ⟨⟨k + 1, by rw [HFl.out]; omega, by go_num, by rw [H1c.out]; rfl, rfl⟩, by simp [intOf]; omega⟩
          · have hcc : ((c.toNat : Int) == 10) = false := by
              rw [beq_eq_false_iff_ne]
              intro e
              exact hc (by rw [← UInt8.toNat_inj]; show c.toNat = 10; omega)
            have h1c : ((List.take (k + 1) (a ++ [10])).countP (· == 10)) = (List.take k (a ++ [10])).countP (· == 10) := by rw [Hct.out, if_neg (by simpa using hc)]; rfl
            generalize (List.take k (a ++ [10])).countP (· == 10) = q at h1c hqk ⊢
            have H1c := Lib.hid h1c
            clear h1c hc Hct
            go_wp2_with fail
            exact ⟨⟨k + 1, by rw [HFl.out]; omega, by go_num, by rw [H1c.out], rfl⟩, by simp [intOf]; omega⟩
        · obtain rfl : k = na + 1 := by omega
          have hcnt2 : (List.take (na + 1) (a ++ [10])).countP (· == 10) = LA.length := by rw [← HFl.out, List.take_length, Hcnt.out]
          have hLA : LA.length ≤ na + 1 := by rw [Hcnt.out, ← HFl.out]; exact List.countP_le_length
          rw [hcnt2]
          clear hcnt2
          have hci : (l1.length : Int) ≤ (c6 : Int) := by omega
          have hcn : l1.length ≤ c6 := by omega
          have hci2 : (l1.length : Int) ≤ (l1.length : Int) + (l2.length : Int) := by omega
          by_cases hpq : l1.length + l2.length = 0
          · obtain rfl : l1 = [] := List.eq_nil_of_length_eq_zero (by omega)
            obtain rfl : l2 = [] := List.eq_nil_of_length_eq_zero (by omega)
            clear hpq
            simp only [List.length_nil] at *
            have HBc := Lib.hid (ext_trans HB5.out HB6.out)
            go_wp2_with (first
              | (go_at_call 34; refine (esame_any [] _ _ _ _ (fun _ => False) (fun _ => False) _ (by simp) (RdS.nil _ _ _ _) (RdS.nil _ _ _ _)).mono ?_; rintro e w7 ⟨rfl, hB7⟩; have HBc := Lib.hid (ext_trans HBc.out hB7); clear hB7)
              | (go_at_call 29; refine (awake12_any _).mono ?_; rintro e w9 ⟨rfl, hB9⟩))
            go_ret
            exact ⟨rfl, ext_trans HBc.out hB9⟩
          · obtain ⟨b6, o6, rfl, hb6, -⟩ := Hr6.out.edge 0 (by simp; omega)
            have hx1 : RdS edgeRep (fun k => w5.heap.size ≤ k) wr (some ⟨b6, o6, none⟩) l1 := by
              have h := Hr6.out.take l1.length
              simp only [List.take_left] at h
              exact h
            have hx2 : RdS edgeRep (fun k => w5.heap.size ≤ k) wr (some ⟨b6, o6 + l1.length * 3, none⟩) l2 := by
              have h := Hr6.out.drop l1.length
              simp only [List.drop_left] at h
              exact h
            have Hx1 := Lib.hid hx1
            have Hx2 := Lib.hid hx2
            have hc0 : ¬ c6 = 0 := by omega
            have hlen1 : l1.length ≤ 1073741824 := by omega
            have hlen2 : l2.length ≤ 1073741824 := by omega
            have HBc := Lib.hid (ext_trans HB5.out HB6.out)
            clear hx1 hx2
            by_cases hq : l2.length = 0
            · obtain rfl : l2 = [] := List.eq_nil_of_length_eq_zero hq
              clear hpq hq
              simp only [List.length_nil, Nat.add_zero] at *
              go_wp2_with (first
                | (go_at_call 34; (with_reducible refine (esame_any l1 _ _ _ _ _ _ _ hlen1 Hx1.out Hr36.out).mono ?_); rintro e w7 ⟨rfl, hB7⟩; have HBc := Lib.hid (ext_trans HBc.out hB7); clear hB7)
                | (go_at_call 34; refine (esame_any [] _ _ _ _ (fun _ => False) (fun _ => False) _ (by simp) (RdS.nil _ _ _ _) (RdS.nil _ _ _ _)).mono ?_; rintro e w7 ⟨rfl, hB7⟩; have HBc := Lib.hid (ext_trans HBc.out hB7); clear hB7)
                | (go_at_call 29; refine (awake12_any _).mono ?_; rintro e w9 ⟨rfl, hB9⟩))
              all_goals (go_ret; exact ⟨rfl, ext_trans HBc.out hB9⟩)
            · have hc1 : ¬ c6 = l1.length := by omega
              clear hpq hq
              go_wp2_with (first
                | (go_at_call 34; (with_reducible refine (esame_any l1 _ _ _ _ _ _ _ hlen1 Hx1.out Hr36.out).mono ?_); rintro e w7 ⟨rfl, hB7⟩; have HBc := Lib.hid (ext_trans HBc.out hB7); have Hx2 := Lib.hid (Hx2.out.ext hB7); have Hr46 := Lib.hid (Hr46.out.ext hB7); clear hB7)
                | (go_at_call 34; (with_reducible refine (esame_any l2 _ _ _ _ _ _ _ hlen2 Hx2.out Hr46.out).mono ?_); rintro e w8 ⟨rfl, hB8⟩; have HBc := Lib.hid (ext_trans HBc.out hB8); clear hB8)
                | (go_at_call 29; refine (awake12_any _).mono ?_; rintro e w9 ⟨rfl, hB9⟩))
              all_goals (go_ret; exact ⟨rfl, ext_trans HBc.out hB9⟩)
end Go.Proofs.Ytafbjkbdfdeacaa
