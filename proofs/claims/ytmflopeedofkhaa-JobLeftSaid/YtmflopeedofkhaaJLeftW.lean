/- JobLeft: the walk. -/
import Derived.Test.YtmflopeedofkhaaJOrderW
import Derived.Test.YtmflopeedofkhaaJobTextM
import Derived.Test.YtmflopeedofkhaaJReadsW
namespace Go.Proofs.Ytmflopeedofkhaa
set_option linter.unusedSimpArgs false
set_option linter.unusedVariables false
set_option maxRecDepth 100000
open Go.RowKit

def keepO (o n : Nat) : Bool := decide (12 ≤ n) || decide (o / 2 ^ n % 2 = 0)
theorem left_snoc (keep : Nat → Bool) : ∀ (l : List W8) (i : Nat) (x : W8), leftL keep i (l ++ [x]) = leftL keep i l ++ (if keep (i + l.length) then [9 :: (x ++ [32]), noteL, []] else [])
  | [], i, x => by simp [leftL]
  | y :: r, i, x => by
    rw [List.cons_append, leftL, leftL, left_snoc keep r (i + 1) x, List.append_assoc, List.length_cons, show i + 1 + r.length = i + (r.length + 1) by omega]
def leP (keep : Nat → Bool) (L : List W8) (q : Nat) : W8 := (leftL keep 0 (L.take q)).flatMap (fun l => l ++ [10])
theorem leP_yes {keep : Nat → Bool} {L : List W8} {q : Nat} (hq : q < L.length) (h : keep q = true) : leP keep L (q + 1) = leP keep L q ++ [9] ++ L[q] ++ [32, 10, 35, 32, 97, 32, 110, 111, 116, 101, 10, 10] := by
  unfold leP
  have hl : (L.take q).length = q := by rw [List.length_take]; omega
  rw [List.take_succ_eq_append_getElem hq, left_snoc, Nat.zero_add, hl, if_pos h, List.flatMap_append]
  simp [noteL]
theorem leP_no {keep : Nat → Bool} {L : List W8} {q : Nat} (hq : q < L.length) (h : keep q = false) : leP keep L (q + 1) = leP keep L q := by
  unfold leP
  have hl : (L.take q).length = q := by rw [List.length_take]; omega
  rw [List.take_succ_eq_append_getElem hq, left_snoc, Nat.zero_add, hl, if_neg (by rw [h]; simp), List.append_nil]
theorem leP_len {keep : Nat → Bool} {L : List W8} (hx : ∀ x ∈ L, x.length ≤ 7800) : ∀ q, q ≤ L.length → (leP keep L q).length ≤ q * 7813
  | 0, _ => by simp [leP, leftL]
  | q + 1, hq => by
    have ih := leP_len (keep := keep) hx q (by omega)
    cases hk : keep q with
    | true =>
      rw [leP_yes (by omega) hk]
      have := hx L[q] (List.getElem_mem _)
      simp only [List.length_append, List.length_cons, List.length_nil]
      omega
    | false => rw [leP_no (by omega) hk]; omega
def leI (o : Nat) (L : List W8) (w6 : World) (v i : Value) (wr : World) : Prop := ∃ a : Nat, a ≤ L.length ∧ i = .int .i64 (a : Nat) ∧ v = .string (bs (leP (keepO o) L a)) ∧ wr = w6
set_option maxRecDepth 100000 in
set_option maxHeartbeats 6400000 in
theorem jobLeft_walk (j : JobD) (ok : JobOk j) (ao : Option Addr) (cap o : Nat) (hob : o < 65536) (w : World) (hr : Rd w ao j.src.length (u32s j.src)) :
    Calls Try.prog 6 #[.agg (jobCs j ao cap), .int .u16 (o : Nat)] w (RetB (.bool true) w) := by
  obtain ⟨W0, hW0⟩ : ∃ W0, w.alloc (.cells (jobCs j ao cap) 30) = W0 := ⟨_, rfl⟩
  have B0 := Lib.hid (show Below w.heap.size w W0 by rw [← hW0]; exact ext_alloc w _)
  have R0 := Lib.hid (show W0.heap[w.heap.size]? = some (.cells (jobCs j ao cap) 30 (0, 0)) by rw [← hW0]; exact heap_alloc_new _ _)
  have HS0 := Lib.hid (hr.ext B0.out)
  have HMy := Lib.hid (fun W (hB : Below W0.heap.size W0 W) => rmay_any j ok ao cap W)
  have HA := Lib.hid (fun W => awake19_any W)
  have HW0 := Lib.hid hW0
  have HIj := Lib.hid (jb_info19 j ao cap)
  obtain ⟨jb, hjb⟩ : ∃ jb, jb = w.heap.size := ⟨_, rfl⟩
  have Hjb := Lib.hid hjb
  rw [← hjb] at R0
  have c4 : W0.cell? ⟨jb, 4, none⟩ = some (.slice ao j.src.length cap) := (cell_of_row _ _ _ _ _ _ R0.out).trans rfl
  clear hW0 hjb
  by_cases h1 : 100 < j.src.length
  · have d1 : decide ((100 : Int) < (j.src.length : Int)) = true := decide_eq_true (by omega)
    have d1' : decide (100 < j.src.length) = true := decide_eq_true h1
    generalize j.src.length = n at c4 d1 d1'
    clear h1 hr
    generalize jobCs j ao cap = jc at HW0 R0 HIj ⊢
    go_enter Try.func6, Try.ntmps6
    go_upto_region 1 with fail
    rw [HW0.out, ← Hjb.out]
    go_wp2_with (first
      | (refine wpList_load_rowg rfl 30 _ rfl jb rfl 30 _ (0, 0) _ R0.out Try.underlying30 rfl HIj.out ?_)
      | fail "no"
      | (go_at_call 8; (with_reducible refine (HA.out _).mono ?_); rintro e w8 ⟨rfl, hx⟩; have B8 := Lib.hid hx; clear hx))
    go_ret
    exact ⟨rfl, B0.out.trans (B8.out.mono B0.out.size)⟩
  have d1 : decide ((100 : Int) < (j.src.length : Int)) = false := decide_eq_false (by omega)
  have d1' : decide (100 < j.src.length) = false := decide_eq_false h1
  have HM := Lib.hid (fun W (hB : Below W0.heap.size W0 W) => HMy.out W hB (by omega) (HS0.out.ext hB))
  by_cases hm : mayJ j = true
  case neg =>
    rw [show mayJ j = false by simpa using hm] at HM
    generalize j.src.length = n at c4 d1 d1'
    clear h1 hr hm HMy
    generalize jobCs j ao cap = jc at *
    go_enter Try.func6, Try.ntmps6
    go_upto_region 1 with fail
    rw [HW0.out, ← Hjb.out]
    go_wp2_with (first
      | (refine wpList_load_rowg rfl 30 _ rfl jb rfl 30 _ (0, 0) _ R0.out Try.underlying30 rfl HIj.out ?_)
      | (go_at_call 13; (with_reducible refine (HM.out _ (Below.refl _ _)).mono ?_); rintro e w7 ⟨rfl, hx⟩; have B7 := Lib.hid (B0.out.trans (hx.mono B0.out.size)); clear hx)
      | (go_at_call 8; (with_reducible refine (HA.out _).mono ?_); rintro e w8 ⟨rfl, hx⟩; have B8 := Lib.hid hx; clear hx))
    go_ret
    exact ⟨rfl, B7.out.trans (B8.out.mono B7.out.size)⟩
  rw [hm] at HM
  have hk3 := (may_inB ok hm).1
  have HPr := Lib.hid (fun W (hB : Below W0.heap.size W0 W) => rprint19_any j ok hk3 (by omega) ao cap W (HS0.out.ext hB))
  have hpl := printJ_len j ok hk3
  have hll := lines_lenJ j
  have hpl1 := print_lines ok hm []
  rw [List.append_nil, lines_nil, List.append_nil] at hpl1
  have HLl := Lib.hid (show ∀ l ∈ linesJ j, l.length ≤ (printJ j).length from fun l hl => by rw [← hpl1] at hl; exact lines_mem19 _ l hl)
  have hkp : ∀ n, 12 ≤ n → keepO o n = true := fun n hn => by unfold keepO; simp [hn]
  obtain ⟨x, hx, hxj⟩ := read_left ok hm (keepO o) hkp
  have hxf := readJ_few (leftT (keepO o) j)
  rw [hx] at hxf
  simp only at hxf
  have hxall : o % 4096 = 0 → x = j := fun h => hxj fun n hn => by
    unfold keepO
    have : o / 2 ^ n % 2 = 0 := by
      have : n = 0 ∨ n = 1 ∨ n = 2 ∨ n = 3 ∨ n = 4 ∨ n = 5 ∨ n = 6 ∨ n = 7 ∨ n = 8 ∨ n = 9 ∨ n = 10 ∨ n = 11 := by omega
      rcases this with rfl | rfl | rfl | rfl | rfl | rfl | rfl | rfl | rfl | rfl | rfl | rfl <;> omega
    simp [this]
  have HSm := Lib.hid (fun so sc so' sc' W (h : Rd W so x.src.length (u32s x.src)) (h' : Rd W so' x.src.length (u32s x.src)) => rsame19_any x (by omega) so so' sc sc' W h h')
  have HSj := Lib.hid (show ∀ W, Below W0.heap.size W0 W → Rd W ao j.src.length (u32s j.src) from fun W hB => HS0.out.ext hB)
  generalize printJ j = P at *
  have hLT : leftT (keepO o) j = leP (keepO o) (linesJ j) (linesJ j).length := by unfold leftT leP; rw [List.take_length]
  obtain ⟨L, hL⟩ : ∃ L, linesJ j = L := ⟨_, rfl⟩
  rw [hL] at hll hpl1 HLl hLT
  have hLl : ∀ x ∈ L, x.length ≤ 7800 := fun x hx => by have := HLl.out x hx; omega
  have hTl := leP_len (keep := keepO o) hLl L.length (Nat.le_refl _)
  rw [hLT] at hx
  have hT1 : (leP (keepO o) L L.length).length ≤ 1000000 := by
    have : L.length * 7813 ≤ 112 * 7813 := Nat.mul_le_mul_right _ (by omega)
    omega
  have HTa := Lib.hid (show ∀ q, q ≤ L.length → (leP (keepO o) L q).length ≤ 1000000 from fun q hq => by
    have h1 := leP_len (keep := keepO o) hLl q hq
    have : q * 7813 ≤ 112 * 7813 := Nat.mul_le_mul_right _ (by omega)
    omega)
  have HLn := Lib.hid (fun ao cap W (h : Rd W ao P.length (byteVals P)) => (show Calls Try.prog 14 #[.slice ao P.length cap] W (RetOwn 9 1 L.length (strCells L) W) from by rw [← hpl1]; exact rlines_any P (by omega) ao cap W h))
  have HCv1 := Lib.hid (fun W => conv_sb19 P (by omega) W)
  have HRd := Lib.hid (fun ao cap W h hc hm => (show Calls Try.prog 9 #[.slice ao (leP (keepO o) L L.length).length cap] W (ReadRet (x, 0, 0) W) from hx ▸ jread_any (leP (keepO o) L L.length) hT1 ao cap W h hc hm))
  have HRr := Lib.hid (fun ao cap W h => (show Calls Try.prog 10 #[.slice ao (leP (keepO o) L L.length).length cap] W (ReadRet (x, 0, 0) W) from hx ▸ rread19_any (leP (keepO o) L L.length) hT1 ao cap W h))
  have HCv2 := Lib.hid (fun W => conv_sb19 (leP (keepO o) L L.length) (by omega) W)
  have HLm := Lib.hid hLl
  have Hxall := Lib.hid hxall
  have hL12 : L.length ≤ 112 := by omega
  generalize j.src.length = n at c4 d1 d1'
  clear hx hxj hxf hxall hkp hLT hTl hT1 HLl hpl hpl1 hL hll hr hm HMy h1 hk3 hLl
  generalize hjc : jobCs j ao cap = jc at *
  have Hjc := Lib.hid hjc
  clear hjc
  go_enter Try.func6, Try.ntmps6
  go_upto_region 1 with fail
  rw [HW0.out, ← Hjb.out]
  go_upto_region 3 with (first
    | (refine wpList_load_rowg rfl 30 _ rfl jb rfl 30 _ (0, 0) _ R0.out Try.underlying30 rfl HIj.out ?_)
    | (go_at_call 13; (with_reducible refine (HM.out _ (Below.refl _ _)).mono ?_); rintro e w1 ⟨rfl, hx⟩; have R1 := Lib.hid ((hx.block _ (blk_lt R0.out)).trans R0.out); have B1 := Lib.hid hx; clear hx))
  go_upto_region 4 with (first
    | (refine wpList_load_row rfl 30 _ rfl jb rfl 30 _ (0, 0) _ R1.out Try.underlying30 rfl HIj.out ?_)
    | (go_at_call 15; (with_reducible refine (HPr.out _ B1.out).mono ?_); rintro e w2 ⟨rfl, hx⟩; have B2 := Lib.hid (B1.out.trans (hx.mono B1.out.size)); obtain ⟨cp3, w3, hcv1, hB3, hr3, hc3, hm3⟩ := HCv1.out w2; have B3 := Lib.hid (B2.out.trans (hB3.mono B2.out.size)); have Hr3 := Lib.hid hr3; clear hB3 hr3 hc3 hm3 hx)
    | (go_at_call 14; (with_reducible refine (HLn.out _ _ _ Hr3.out).mono ?_); rintro e w4 ⟨la, lc, lg, rfl, hx, hy, hz⟩; have Lo := Lib.hid hx; have B4 := Lib.hid (B3.out.trans (hz.mono B3.out.size)); clear hx hy hz))
  clear hcv1
  go_wp2_with fail
  go_loopw [6, 7] (fun v i wr => leI o L w4 v i wr) (fun _ i _ => L.length - (intOf i).toNat)
  case atStart => exact ⟨0, Nat.zero_le _, rfl, rfl, rfl⟩
  case round =>
    obtain ⟨q, hq, rfl, rfl, rfl⟩ := hrel
    by_cases hlt : q < L.length
    · have hqr : (q : Int) < (L.length : Int) := by omega
      obtain ⟨lb, hla, hlb⟩ : ∃ b, la = some ⟨b, 0, none⟩ ∧ b < wr.heap.size := by
        obtain ⟨b, h1, h2, h3⟩ := Lo.out.pos (by omega)
        exact ⟨b, h2, h3⟩
      subst hla
      have cq : wr.cell? ⟨lb, q, none⟩ = some (.string (bs L[q])) := by
        rw [Lo.out.cell q (by omega)]
        simp only [strCells, List.getElem?_map, List.getElem?_eq_getElem hlt, Option.map_some]
      by_cases h12 : 12 ≤ q
      · have e1 : decide (12 ≤ (q : Int)) = true := decide_eq_true (by omega)
        have e1' : decide (12 ≤ q) = true := decide_eq_true h12
        have hkq : keepO o q = true := by unfold keepO; rw [e1']; rfl
        have HY := Lib.hid (leP_yes hlt hkq)
        have hxl := HLm.out L[q] (List.getElem_mem hlt)
        have hql := HTa.out q (by omega)
        generalize L[q] = y at cq hxl HY
        generalize leP (keepO o) L q = Q at hql HY ⊢
        have a1 := str_add Q [9] (by simp; omega)
        obtain ⟨Q1, hQ1⟩ : ∃ Q1, Q ++ [9] = Q1 := ⟨_, rfl⟩
        have hQ1l : Q1.length = Q.length + 1 := by rw [← hQ1, List.length_append]; rfl
        rw [hQ1] at a1 HY
        have a2 := str_add Q1 y (by omega)
        obtain ⟨Q2, hQ2⟩ : ∃ Q2, Q1 ++ y = Q2 := ⟨_, rfl⟩
        have hQ2l : Q2.length = Q1.length + y.length := by rw [← hQ2, List.length_append]
        rw [hQ2] at a2 HY
        have a3 := str_add Q2 [32, 10, 35, 32, 97, 32, 110, 111, 116, 101, 10, 10] (by simp; omega)
        rw [← HY.out] at a3
        simp only [show bs [9] = ⟨#[9]⟩ from rfl, show bs [32, 10, 35, 32, 97, 32, 110, 111, 116, 101, 10, 10] = ⟨#[32, 10, 35, 32, 97, 32, 110, 111, 116, 101, 10, 10]⟩ from rfl] at a1 a3
        obtain ⟨Q3, hQ3⟩ : ∃ Q3, leP (keepO o) L (q + 1) = Q3 := ⟨_, rfl⟩
        rw [hQ3] at a3
        have HQ3 := Lib.hid hQ3
        clear hQ1 hQ1l hQ2 hQ2l hQ3 hql hxl hkq
        go_wp2_with fail
        go_roundw
        case rel => exact ⟨q + 1, by omega, by go_num, by rw [HQ3.out], rfl⟩
        case measure => simp [intOf]; omega
      · have e1 : decide (12 ≤ (q : Int)) = false := decide_eq_false (by omega)
        have e1' : decide (12 ≤ q) = false := decide_eq_false h12
        have hkd : keepO o q = decide (o / 2 ^ q % 2 = 0) := by unfold keepO; rw [e1', Bool.false_or]
        obtain ⟨r, hr⟩ : ∃ r, o / 2 ^ q = r := ⟨_, rfl⟩
        have h2q : (o : Int) / 2 ^ q = (r : Int) := by rw [← hr]; simp
        have h2t : (r : Int).tmod 2 = ((r % 2 : Nat) : Int) := tmod_nat r 2
        rw [hr] at hkd
        clear hr
        by_cases hb : r % 2 = 0
        · have hbb : (((r % 2 : Nat) : Int) == 0) = true := by rw [hb]; rfl
          have hkq : keepO o q = true := by rw [hkd]; exact decide_eq_true hb
          generalize ((r % 2 : Nat) : Int) = z at h2t hbb
          clear hb hkd
          have HY := Lib.hid (leP_yes hlt hkq)
          have hxl := HLm.out L[q] (List.getElem_mem hlt)
          have hql := HTa.out q (by omega)
          generalize L[q] = y at cq hxl HY
          generalize leP (keepO o) L q = Q at hql HY ⊢
          have a1 := str_add Q [9] (by simp; omega)
          obtain ⟨Q1, hQ1⟩ : ∃ Q1, Q ++ [9] = Q1 := ⟨_, rfl⟩
          have hQ1l : Q1.length = Q.length + 1 := by rw [← hQ1, List.length_append]; rfl
          rw [hQ1] at a1 HY
          have a2 := str_add Q1 y (by omega)
          obtain ⟨Q2, hQ2⟩ : ∃ Q2, Q1 ++ y = Q2 := ⟨_, rfl⟩
          have hQ2l : Q2.length = Q1.length + y.length := by rw [← hQ2, List.length_append]
          rw [hQ2] at a2 HY
          have a3 := str_add Q2 [32, 10, 35, 32, 97, 32, 110, 111, 116, 101, 10, 10] (by simp; omega)
          rw [← HY.out] at a3
          simp only [show bs [9] = ⟨#[9]⟩ from rfl, show bs [32, 10, 35, 32, 97, 32, 110, 111, 116, 101, 10, 10] = ⟨#[32, 10, 35, 32, 97, 32, 110, 111, 116, 101, 10, 10]⟩ from rfl] at a1 a3
          obtain ⟨Q3, hQ3⟩ : ∃ Q3, leP (keepO o) L (q + 1) = Q3 := ⟨_, rfl⟩
          rw [hQ3] at a3
          have HQ3 := Lib.hid hQ3
          clear hQ1 hQ1l hQ2 hQ2l hQ3 hql hxl hkq
          go_wp2_with fail
          go_roundw
          case rel => exact ⟨q + 1, by omega, by go_num, by rw [HQ3.out], rfl⟩
          case measure => simp [intOf]; omega
        · have hbb : (((r % 2 : Nat) : Int) == 0) = false := beq_eq_false_iff_ne.2 (by omega)
          have HN := Lib.hid (leP_no (keep := keepO o) hlt (by rw [hkd]; exact decide_eq_false hb))
          generalize ((r % 2 : Nat) : Int) = z at h2t hbb
          clear hb hkd
          go_wp2_with fail
          go_roundw
          case rel => exact ⟨q + 1, by omega, by go_num, by rw [HN.out], rfl⟩
          case measure => simp [intOf]; omega
    · obtain rfl : q = L.length := by omega
      clear HTa HLm hlt hq
      generalize leP (keepO o) L L.length = T at HRd HRr HCv2 ⊢
      obtain ⟨cp5, w5, hcv5, hB5, hr5, hc5, hm5⟩ := HCv2.out wr
      have B5 := Lib.hid (B4.out.trans (hB5.mono B4.out.size))
      have Hr5 := Lib.hid hr5
      have Hc5 := Lib.hid (And.intro hc5 hm5)
      clear hB5 hr5 hc5 hm5
      go_upto_region 12 with (first
        | (go_at_call 9; (with_reducible refine (HRd.out _ _ _ Hr5.out Hc5.out.1 Hc5.out.2).mono ?_); rintro e w6 ⟨so, sc, rfl, hx, hy⟩; have HS6 := Lib.hid hx; have B6 := Lib.hid (B5.out.trans (hy.mono B5.out.size)); clear hx hy)
        | (refine wpList_store_row rfl 30 (.tmp 8) _ rfl rfl rfl (heap_alloc_new _ _) rfl (jb_info19 _ _ _) (jb_one19 _ _ _) ?_; intro w7 h7 o7; have hB7 : Below w6.heap.size w6 w7 := (ext_alloc _ _).trans (o7.below (by simp) (fun k hk e => by omega)); have R7 := Lib.hid h7; have B7 := Lib.hid (B6.out.trans (hB7.mono B6.out.size)); have HS7 := Lib.hid (HS6.out.ext hB7); clear h7 o7 hB7 hcv5; obtain ⟨cp8, w8, hcv8, hB8, hr8, hc8, hm8⟩ := HCv2.out w7; have B78 := Lib.hid hB8; have B8 := Lib.hid (B7.out.trans (hB8.mono B7.out.size)); have Hr8 := Lib.hid hr8; clear hB8 hr8 hc8 hm8)
        | (go_at_call 10; (with_reducible refine (HRr.out _ _ _ Hr8.out).mono ?_); rintro e w9 ⟨so', sc', rfl, hx, hy⟩; have HS9 := Lib.hid hx; have B9 := Lib.hid (B78.out.trans (hy.mono B78.out.size)); clear hx hy)
        | (refine wpList_store_row rfl 30 (.tmp 11) _ rfl rfl rfl (heap_alloc_new _ _) rfl (jb_info19 _ _ _) (jb_one19 _ _ _) ?_; intro w10 h10 o10; have hB10 : Below w9.heap.size w9 w10 := (ext_alloc _ _).trans (o10.below (by simp) (fun k hk e => by omega)); have R10 := Lib.hid h10; have B79 := Lib.hid (B9.out.trans (hB10.mono B9.out.size)); have B10 := Lib.hid (B7.out.trans (B79.out.mono B7.out.size)); have R7b := Lib.hid ((B79.out.block _ (blk_lt R7.out)).trans R7.out); have HS10 := Lib.hid (HS9.out.ext hB10); have HS7b := Lib.hid (HS7.out.ext B79.out); have R0b := Lib.hid ((B10.out.block jb (blk_lt R0.out)).trans R0.out); clear h10 o10 hB10))
      have h2t : (o : Int).tmod 4096 = ((o % 4096 : Nat) : Int) := tmod_nat o 4096
      have hlt9 : w6.heap.size < w9.heap.size := by have h1 := blk_lt R7.out; have h2 := B9.out.size; omega
      by_cases hz : o % 4096 = 0
      · have hzb : (((o % 4096 : Nat) : Int) == 0) = true := by rw [hz]; rfl
        have HSz := Lib.hid (show jc.size = (jobCs x so' sc').size by rw [← Hjc.out]; rfl)
        have H1c := Lib.hid (show jc.all (·.oneCell') = true by rw [← Hjc.out]; exact jb_one19 _ _ _)
        obtain rfl := Hxall.out hz
        generalize ((o % 4096 : Nat) : Int) = z at h2t hzb
        clear hz Hxall
        go_wp2_with (first
          | (refine wpList_load_row rfl 30 (.tmp 2) rfl jb rfl 30 _ (0, 0) _ R0b.out Try.underlying30 rfl HIj.out ?_)
          | (refine wpList_store_row rfl 30 (.tmp 11) _ rfl rfl rfl R10.out HSz.out HIj.out H1c.out ?_; intro w11 h11 o11; have R11 := Lib.hid h11; have R7c := Lib.hid ((o11.same _ (blk_lt R7b.out) (by omega)).trans R7b.out); have HS7c := Lib.hid (HS7b.out.onlyB o11 (fun hn k off hk e => by
              obtain ⟨b', off', q1, q2, _⟩ := HS6.out.pos hn
              rw [hk] at q1
              cases q1
              omega)); have B11 := Lib.hid (B10.out.trans (o11.below B10.out.size (fun k hk e => by have := B6.out.size; omega))); clear h11 o11)
          | (refine wpList_load_rowg rfl 30 (.tmp 8) rfl w6.heap.size rfl 30 _ (0, 0) _ R7c.out Try.underlying30 rfl (jb_info19 _ _ _) ?_)
          | (refine wpList_load_rowg rfl 30 (.tmp 11) rfl w9.heap.size rfl 30 _ (0, 0) _ R11.out Try.underlying30 rfl HIj.out ?_)
          | (go_at_call 11; rw [← Hjc.out]; (with_reducible refine (HSm.out _ _ _ _ _ HS7c.out (HSj.out _ B11.out)).mono ?_); rintro e w12 ⟨rfl, hx⟩; have B12 := Lib.hid (B11.out.trans (hx.mono B11.out.size)); clear hx)
          | (go_at_call 8; (with_reducible refine (HA.out _).mono ?_); rintro e w13 ⟨rfl, hx⟩; have B13 := Lib.hid hx; clear hx))
        go_ret
        have b12 := B0.out.trans (B12.out.mono B0.out.size)
        exact ⟨rfl, b12.trans (B13.out.mono b12.size)⟩
      · have hzb : (((o % 4096 : Nat) : Int) == 0) = false := beq_eq_false_iff_ne.2 (by omega)
        generalize ((o % 4096 : Nat) : Int) = z at h2t hzb
        clear hz Hxall
        go_wp2_with (first
          | (refine wpList_load_rowg rfl 30 (.tmp 8) rfl w6.heap.size rfl 30 _ (0, 0) _ R7b.out Try.underlying30 rfl (jb_info19 _ _ _) ?_)
          | (refine wpList_load_rowg rfl 30 (.tmp 11) rfl w9.heap.size rfl 30 _ (0, 0) _ R10.out Try.underlying30 rfl (jb_info19 _ _ _) ?_)
          | (go_at_call 11; (with_reducible refine (HSm.out _ _ _ _ _ HS7b.out HS10.out).mono ?_); rintro e w12 ⟨rfl, hx⟩; have B12 := Lib.hid (B10.out.trans (hx.mono B10.out.size)); clear hx)
          | (go_at_call 8; (with_reducible refine (HA.out _).mono ?_); rintro e w13 ⟨rfl, hx⟩; have B13 := Lib.hid hx; clear hx))
        go_ret
        have b12 := B0.out.trans (B12.out.mono B0.out.size)
        exact ⟨rfl, b12.trans (B13.out.mono b12.size)⟩
end Go.Proofs.Ytmflopeedofkhaa
