/- Texts merged into one: WlkMeth2. -/
import Derived.Test.YtcklfffeimnfeaaGreatBx14
import Derived.Test.YtcklfffeimnfeaaGreatBx19
set_option maxRecDepth 100000
set_option maxHeartbeats 12800000
set_option linter.unusedSimpArgs false
set_option linter.unusedVariables false
namespace Go.Proofs.YtcklfffeimnfeaaGreat
open Go.RowKit

theorem wcand_any {g : Nat} {gp : Value} {j : JobD} {id : Nat} {ao : Option Addr} {cap : Nat} {go : Option Nat} {path : List Nat} {w : World} (h : WlS g gp j id ao cap go path w) (hid : id < 4294967296) (l : List ArcD) (ab bo : Option Addr) (ca cb : Nat) (fp fq : Nat → Prop) (t : Nat) (ht : t < 4294967296)
    (hl : l.length ≤ 1000) (hne : l ≠ []) (hm : mayA l = true) (hfp : ∀ b, fp b → b < w.heap.size) (hfq : ∀ b, fq b → b < w.heap.size) (hrd : RdS arcRep fp w ab l) (hrt : RdS cellRep fq w bo (buildT (l.map (·.2)))) :
    Calls Tryz.prog 70 #[.pointer (some ⟨g, 0, none⟩), .slice ab l.length ca, .slice bo l.length cb, .int .u64 (t : Nat)] w (RetB (.int .u32 (candW l j id (path.length - 1) t : Nat)) w) := by
  have hT : RightT (l.map (·.2)) (buildT (l.map (·.2))) := buildT_right _
  have hTl : (buildT (l.map (·.2))).length = l.length := by rw [hT.1, List.length_map]
  have hi := cand_lt hm hne j id (path.length - 1) t
  have hs : sumA l ≤ 2147483647 := (of_decide_eq_true hm).2.2
  obtain ⟨htot, hsum, hl0⟩ := totalM_pos hm hne
  have hpos : 0 < totalM l := by rw [htot]; exact Nat.mul_pos hsum hl0
  have htb : totalM l ≤ 2147483647 * 1000 := by rw [htot]; exact Nat.mul_le_mul hs hl
  have hx : drawW j id (path.length - 1) (2 * t + 1) (totalM l) < totalM l := drwN_lt _ _ _ _ hpos
  have htw : (l.map (·.2)).length * (l.map (·.2)).sum = totalM l := by rw [htot, List.length_map, Nat.mul_comm]; rfl
  have hxw : drawW j id (path.length - 1) (2 * t + 1) (totalM l) < (l.map (·.2)).length * (l.map (·.2)).sum := by rw [htw]; exact hx
  unfold candW
  have HT := Lib.hid (fun W (hB : Below w.heap.size w W) => total_any l ab ca fp W (by omega) (hrd.ext hB))
  have HD := Lib.hid (fun W (hB : Below w.heap.size w W) => (show Calls Tryz.prog 113 #[.pointer (some ⟨g, 0, none⟩), .int .u64 (t : Nat), .int .u64 1, .int .u64 (totalM l : Nat)] W (RetB (.int .u64 (drawW j id (path.length - 1) (2 * t + 1) (totalM l) : Nat)) W) from wdraw_any (h.ext hB) hid t 1 (totalM l) ht (by omega) (by omega)))
  obtain ⟨x, hxe⟩ : ∃ x, drawW j id (path.length - 1) (2 * t + 1) (totalM l) = x := ⟨_, rfl⟩
  rw [hxe] at hx hxw hi HD ⊢
  have hiv : intervalT (l.map (·.2)) (remapT (l.map (·.2)) (buildT (l.map (·.2))) x) = toT (buildT (l.map (·.2))) (sumA l) x := interval_remap hT hxw
  have hy : remapT (l.map (·.2)) (buildT (l.map (·.2))) x < totalM l := by
    have h1 := (remap_go hT hxw).2
    have h2 := frontT_le (l.map (·.2)) (show toT (buildT (l.map (·.2))) (l.map (·.2)).sum x + 1 ≤ (l.map (·.2)).length from toT_lt hT hxw)
    rw [frontT_all, htw] at h2
    exact Nat.lt_of_lt_of_le h1 h2
  have HR := Lib.hid (fun W (hB : Below w.heap.size w W) => remap_any l (buildT (l.map (·.2))) x ab bo ca cb fp fq W hl hne hm hT hx (fun b hb => Nat.lt_of_lt_of_le (hfp b hb) hB.size) (fun b hb => Nat.lt_of_lt_of_le (hfq b hb) hB.size) (hrd.ext hB) (hrt.ext hB))
  have HI := Lib.hid (fun W (hB : Below w.heap.size w W) => interval_any l (remapT (l.map (·.2)) (buildT (l.map (·.2))) x) ab ca fp W hl hs hy (fun b hb => Nat.lt_of_lt_of_le (hfp b hb) hB.size) (hrd.ext hB))
  rw [hiv] at HI
  rw [hTl] at HR
  have HA := Lib.hid (fun W (hB : Below w.heap.size w W) => (hrd.ext hB).arc (toT (buildT (l.map (·.2))) (sumA l) x) hi)
  rw [getElem!_pos l _ hi]
  generalize remapT (l.map (·.2)) (buildT (l.map (·.2))) x = y at *
  generalize hie : toT (buildT (l.map (·.2))) (sumA l) x = i at *
  have hir : (i : Int) < (l.length : Int) := by omega
  generalize l[i] = X at *
  generalize totalM l = tm at *
  clear hrd hrt h hT hTl hs htot hpos htb htw hsum hl0 hx hxw hiv hy hie hxe hfp hfq
  go_enter Tryz.func70, Tryz.ntmps70
  go_wp2_with (first
    | (go_at_call 53; (with_reducible refine (HT.out _ (Below.refl _ _)).mono ?_); rintro e w1 ⟨rfl, hB⟩; have B1 := Lib.hid hB; clear hB)
    | (go_at_call 113; (with_reducible refine (HD.out _ B1.out).mono ?_); rintro e w2 ⟨rfl, hB⟩; have B2 := Lib.hid (B1.out.trans (hB.mono B1.out.size)); clear hB)
    | (go_at_call 114; (with_reducible refine (HR.out _ B2.out).mono ?_); rintro e w3 ⟨rfl, hB⟩; have B3 := Lib.hid (B2.out.trans (hB.mono B2.out.size)); clear hB)
    | (go_at_call 115; (with_reducible refine (HI.out _ B3.out).mono ?_); rintro e w4 ⟨rfl, hB⟩; have B4 := Lib.hid (B3.out.trans (hB.mono B3.out.size)); clear hB; obtain ⟨ba, off, rfl, hba, a0, a1, hoka⟩ := HA.out _ B4.out; clear a1 hoka))
  go_ret
  exact ⟨rfl, B4.out⟩
theorem wtakes_any {g : Nat} {p : Option Nat} {j : JobD} {id : Nat} {ao : Option Addr} {cap : Nat} {go : Option Nat} {path : List Nat} {w : World} (h : WlS g (gV p) j id ao cap go path w) (hid : id < 4294967296) (hj : JobOk j) (R : List RowD) (gfp : Nat → Prop)
    (hl : R.length ≤ 100000) (ha : ∀ r ∈ R, r.2.length ≤ 100000 ∧ r.2.Pairwise (fun a b => a.1 < b.1)) (hp : R.Pairwise (fun a b => a.1 < b.1)) (hg : GraphIs w gfp p R) (tv t : Nat) (htv : tv < 4294967296) (ht : t < 4294967296) :
    Calls Tryz.prog 71 #[.pointer (some ⟨g, 0, none⟩), .int .u32 (tv : Nat), .int .u64 (t : Nat)] w (RetB (.bool (takesW (near15M R) j id path tv t)) w) := by
  have c0 := h.c0
  have c1 := h.c1
  have c17 := h.c17
  have hgl := h.lt
  by_cases hk : j.kind = 2
  · have k1 : ((j.kind : Int) != 2) = false := by rw [hk]; rfl
    have k2 : (j.kind != 2) = false := by rw [hk]; rfl
    by_cases hn : path.length = 1
    · have n1 : ((path.length : Int) == 1) = true := by rw [hn]; rfl
      have n2 : (path.length == 1) = true := by rw [hn]; rfl
      have hr : takesW (near15M R) j id path tv t = true := by unfold takesW; rw [if_pos (.inr hn)]
      rw [hr]
      clear hr hn hk h hg c0
      generalize path.length = n at *
      generalize j.kind = kd at *
      go_enter Tryz.func71, Tryz.ntmps71
      go_wp2_with fail
      go_ret
      exact ⟨rfl, Below.refl _ _⟩
    · have n1 : ((path.length : Int) == 1) = false := beq_eq_false_iff_ne.2 (by omega)
      have n2 : (path.length == 1) = false := beq_eq_false_iff_ne.2 hn
      have hps := h.pos
      have hr : takesW (near15M R) j id path tv t = decide (drawW j id (path.length - 1) (2 * t) (j.p * j.q) < weightN j.p j.q (tv == path[path.length - 2]!) (near15M R path[path.length - 2]! tv)) := by unfold takesW; rw [if_neg (fun e => e.elim (fun e => e hk) hn)]
      rw [hr]
      have hp1 := hj.p
      have hq1 := hj.q
      have hpq : j.p * j.q ≤ 4294967295 * 4294967295 := Nat.mul_le_mul (by omega) (by omega)
      have HA := Lib.hid (show Calls Tryz.prog 67 #[.pointer (some ⟨g, 0, none⟩), .int .i64 1] w (RetB (.int .u32 (path[path.length - 2]! : Nat)) w) from by rw [show path.length - 2 = path.length - 1 - 1 from (Nat.sub_sub _ 1 1).symm]; exact wat_any h 1 (by omega))
      have HD := Lib.hid (fun W (hB : Below w.heap.size w W) => (show Calls Tryz.prog 113 #[.pointer (some ⟨g, 0, none⟩), .int .u64 (t : Nat), .int .u64 0, .int .u64 (j.p * j.q : Nat)] W (RetB (.int .u64 (drawW j id (path.length - 1) (2 * t) (j.p * j.q) : Nat)) W) from wdraw_any (h.ext hB) hid t 0 (j.p * j.q) ht (by omega) (by omega)))
      have HS := Lib.hid (fun W => scale_any j.p j.q hp1 hq1 W)
      obtain ⟨av, hav⟩ : ∃ av, path[path.length - 2]! = av := ⟨_, rfl⟩
      rw [hav] at HA ⊢
      have HN := Lib.hid (fun W (hB : Below w.heap.size w W) => gnear_any p R av tv gfp W hl ha hp (hg.ext hB))
      have HAc := Lib.hid (fun W => baccepts_any j.p j.q hp1 hq1 (tv == av) (near15M R av tv) (drawW j id (path.length - 1) (2 * t) (j.p * j.q)) W)
      generalize drawW j id (path.length - 1) (2 * t) (j.p * j.q) = u at *
      clear hr hn hk hav hg hpq hj
      by_cases hbk : tv = av
      · have b1 : ((tv : Int) == (av : Int)) = true := by rw [hbk]; simp
        have b2 : (tv == av) = true := by rw [hbk]; simp
        rw [b2] at HAc ⊢
        clear hbk
        generalize weightN j.p j.q true (near15M R av tv) = wt at *
        generalize near15M R av tv = nr at *
        have HKc := Lib.hid (fun W (hB : Below w.heap.size w W) => (show W.cell? ⟨g, 0, none⟩ = some (gV p) ∧ W.cell? ⟨g, 8, none⟩ = some (.int .u32 (j.p : Nat)) ∧ W.cell? ⟨g, 9, none⟩ = some (.int .u32 (j.q : Nat)) from ⟨(h.ext hB).c0, (h.ext hB).c8, (h.ext hB).c9⟩))
        obtain ⟨d0, d1, d2⟩ := HKc.out w (Below.refl _ _)
        clear h
        generalize path.length = n at *
        generalize j.p * j.q = pq at *
        generalize j.p = jp at *
        generalize j.q = jq at *
        generalize j.kind = kd at *
        obtain ⟨gv, hgv⟩ : ∃ gv, gV p = gv := ⟨_, rfl⟩
        rw [hgv] at c0 d0 HKc HN
        clear hgv
        go_enter Tryz.func71, Tryz.ntmps71
        go_wp2_with (go_at_call 67; (with_reducible refine HA.out.mono ?_); rintro e w1 ⟨rfl, hB⟩; have B1 := Lib.hid hB; have HP0 := Lib.hid (HKc.out _ (hB.trans ((ext_drew _).mono hB.size))); clear hB)
        go_region_held3 (fun w' => w'.cell? ⟨g, 0, none⟩ = some gv ∧ w'.cell? ⟨g, 8, none⟩ = some (.int .u32 (jp : Nat)) ∧ w'.cell? ⟨g, 9, none⟩ = some (.int .u32 (jq : Nat)))
          (first | exact HP0.out | exact HP1.out)
          (first
            | (go_at_call 89; (with_reducible refine (HS.out _).mono ?_); rintro e w2 ⟨rfl, rfl⟩)
            | (go_at_call 113; (with_reducible refine (HD.out _ (B1.out.trans ((ext_drew _).mono B1.out.size))).mono ?_); rintro e w3 ⟨rfl, hB⟩; have B3 := Lib.hid ((B1.out.trans ((ext_drew _).mono B1.out.size)).trans (hB.mono (by have := B1.out.size; simpa using this))); have HP1 := Lib.hid (HKc.out _ B3.out); have HP2 := Lib.hid (HKc.out _ (B3.out.trans ((ext_drew _).mono B3.out.size))); clear hB)
            | fail "no arm")
        go_wp2_with fail
        go_region_held3 (fun w' => w'.cell? ⟨g, 0, none⟩ = some gv ∧ w'.cell? ⟨g, 8, none⟩ = some (.int .u32 (jp : Nat)) ∧ w'.cell? ⟨g, 9, none⟩ = some (.int .u32 (jq : Nat)))
          (first | exact HP2.out | exact HP3.out)
          (first
            | (go_at_call 116; (with_reducible refine (HN.out _ (B3.out.trans ((ext_drew _).mono B3.out.size))).mono ?_); rintro e w4 ⟨rfl, hB⟩; have B4 := Lib.hid ((B3.out.trans ((ext_drew _).mono B3.out.size)).trans (hB.mono (by have := B3.out.size; simpa using this))); have HP3 := Lib.hid (HKc.out _ B4.out); clear hB)
            | (go_at_call 87; (with_reducible refine (HAc.out _).mono ?_); rintro e w5 ⟨rfl, rfl⟩)
            | fail "no arm")
        go_wp2_with fail
        go_ret
        exact ⟨rfl, B4.out⟩
      · have b1 : ((tv : Int) == (av : Int)) = false := beq_eq_false_iff_ne.2 (by omega)
        have b2 : (tv == av) = false := beq_eq_false_iff_ne.2 hbk
        rw [b2] at HAc ⊢
        clear hbk
        generalize weightN j.p j.q false (near15M R av tv) = wt at *
        generalize near15M R av tv = nr at *
        have HKc := Lib.hid (fun W (hB : Below w.heap.size w W) => (show W.cell? ⟨g, 0, none⟩ = some (gV p) ∧ W.cell? ⟨g, 8, none⟩ = some (.int .u32 (j.p : Nat)) ∧ W.cell? ⟨g, 9, none⟩ = some (.int .u32 (j.q : Nat)) from ⟨(h.ext hB).c0, (h.ext hB).c8, (h.ext hB).c9⟩))
        obtain ⟨d0, d1, d2⟩ := HKc.out w (Below.refl _ _)
        clear h
        generalize path.length = n at *
        generalize j.p * j.q = pq at *
        generalize j.p = jp at *
        generalize j.q = jq at *
        generalize j.kind = kd at *
        obtain ⟨gv, hgv⟩ : ∃ gv, gV p = gv := ⟨_, rfl⟩
        rw [hgv] at c0 d0 HKc HN
        clear hgv
        go_enter Tryz.func71, Tryz.ntmps71
        go_wp2_with (go_at_call 67; (with_reducible refine HA.out.mono ?_); rintro e w1 ⟨rfl, hB⟩; have B1 := Lib.hid hB; have HP0 := Lib.hid (HKc.out _ (hB.trans ((ext_drew _).mono hB.size))); clear hB)
        go_region_held3 (fun w' => w'.cell? ⟨g, 0, none⟩ = some gv ∧ w'.cell? ⟨g, 8, none⟩ = some (.int .u32 (jp : Nat)) ∧ w'.cell? ⟨g, 9, none⟩ = some (.int .u32 (jq : Nat)))
          (first | exact HP0.out | exact HP1.out)
          (first
            | (go_at_call 89; (with_reducible refine (HS.out _).mono ?_); rintro e w2 ⟨rfl, rfl⟩)
            | (go_at_call 113; (with_reducible refine (HD.out _ (B1.out.trans ((ext_drew _).mono B1.out.size))).mono ?_); rintro e w3 ⟨rfl, hB⟩; have B3 := Lib.hid ((B1.out.trans ((ext_drew _).mono B1.out.size)).trans (hB.mono (by have := B1.out.size; simpa using this))); have HP1 := Lib.hid (HKc.out _ B3.out); have HP2 := Lib.hid (HKc.out _ (B3.out.trans ((ext_drew _).mono B3.out.size))); clear hB)
            | fail "no arm")
        go_wp2_with fail
        go_region_held3 (fun w' => w'.cell? ⟨g, 0, none⟩ = some gv ∧ w'.cell? ⟨g, 8, none⟩ = some (.int .u32 (jp : Nat)) ∧ w'.cell? ⟨g, 9, none⟩ = some (.int .u32 (jq : Nat)))
          (first | exact HP2.out | exact HP3.out)
          (first
            | (go_at_call 116; (with_reducible refine (HN.out _ (B3.out.trans ((ext_drew _).mono B3.out.size))).mono ?_); rintro e w4 ⟨rfl, hB⟩; have B4 := Lib.hid ((B3.out.trans ((ext_drew _).mono B3.out.size)).trans (hB.mono (by have := B3.out.size; simpa using this))); have HP3 := Lib.hid (HKc.out _ B4.out); clear hB)
            | (go_at_call 87; (with_reducible refine (HAc.out _).mono ?_); rintro e w5 ⟨rfl, rfl⟩)
            | fail "no arm")
        go_wp2_with fail
        go_ret
        exact ⟨rfl, B4.out⟩
  · have k1 : ((j.kind : Int) != 2) = true := by simp; omega
    have k2 : (j.kind != 2) = true := by simp; omega
    have hr : takesW (near15M R) j id path tv t = true := by unfold takesW; rw [if_pos (.inl hk)]
    rw [hr]
    clear hr hk h hg c0 c17
    generalize j.kind = kd at *
    go_enter Tryz.func71, Tryz.ntmps71
    go_wp2_with fail
    go_ret
    exact ⟨rfl, Below.refl _ _⟩
end Go.Proofs.YtcklfffeimnfeaaGreat
