/- step.Move. -/
import Derived.Test.YtcklfffeimnfeaaGreatBx18
import Derived.Test.YtcklfffeimnfeaaGreatBx19
import Derived.Test.YtcklfffeimnfeaaGreatStepM2
import Derived.Test.YtcklfffeimnfeaaGreatStepM4
import Derived.Test.YtcklfffeimnfeaaGreatWkRefMay
import Derived.ScopeJumps
import Derived.WalkMore
namespace Go.Proofs.YtcklfffeimnfeaaGreat
set_option linter.unusedSimpArgs false
set_option linter.unusedVariables false
set_option maxRecDepth 100000
open Go.RowKit

theorem aliasM_lt {l : List ArcD} {t : List CellD} {x i : Nat} (h : aliasM l t x = some i) : i < l.length := by
  unfold aliasM at h
  split at h
  · cases h
  rename_i h1
  have h2 : ¬ totalM l ≤ x := fun e => h1 (.inr e)
  have hx : x < totalM l := Nat.lt_of_not_le h2
  unfold totalM at hx
  split at hx
  · split at h
    · cases h
      have hs : 0 < sumA l := by
        rcases Nat.eq_zero_or_pos (sumA l) with e | e
        · rw [e] at hx; simp at hx
        · exact e
      rw [Nat.div_lt_iff_lt_mul hs, Nat.mul_comm]
      exact hx
    · split at h
      · cases h; assumption
      · cases h
  · omega
/-- a scope with one jump forward -/
theorem wp_scope_once {P : Program} {c rest : Code} {Q : Exit → Act → World → Prop} {a : Act} {w : World} (l : Nat) (hf : findLabel c l = some rest) (first : c.wp P (Exit.jump l (fun a w => rest.wp P (Exit.noGoto Q) a w) Q) a w) : (Code.scope c).wp P Q a w :=
  wp_scope_jumps l _ (fun _ _ => 0) hf first (fun a w h => Code.wp_mono (fun e a w h => by cases e <;> first | exact h | exact h.elim) h)
/-- the blocks of a move -/
structure MvW (b : Nat) (j : JobD) (x : WkD) (so : Option Addr) (sc : Nat) (W : World) : Prop where
  job : W.heap[b]? = some (.cells (jobCs j so sc) 29 (0, 0))
  wk : W.heap[b + 1]? = some (.cells (wkCs x) 44 (0, 0))
  res : W.heap[b + 2]? = some (.cells wkZ 44 (0, 0))
  mv : W.heap[b + 3]? = some (.cells (mvCs x j so sc) 91 (0, 0))
theorem MvW.ext {b : Nat} {j : JobD} {x : WkD} {so : Option Addr} {sc : Nat} {W W' : World} (h : MvW b j x so sc W) (hB : Below W.heap.size W W') : MvW b j x so sc W' := by
  have k : ∀ i o, W.heap[i]? = some o → W'.heap[i]? = some o := fun i o e => (hB.block i (Array.getElem?_eq_some_iff.1 e).1).trans e
  exact ⟨k _ _ h.job, k _ _ h.wk, k _ _ h.res, k _ _ h.mv⟩
theorem MvW.s {b : Nat} {j : JobD} {x : WkD} {so : Option Addr} {sc : Nat} {W : World} (h : MvW b j x so sc W) : MvS (b + 3) x j W := MvS.of h.mv
theorem wkCs_one (x : WkD) : (wkCs x).all (·.oneCell') = true := by simp [wkCs, Value.oneCell']
theorem wk_info (x : WkD) : (Tryz.prog.info? 44).map (·.size) = some (wkCs x).size := by kernel_rfl
def moveV (r : WkD × Nat) : Value := .tuple #[.agg (wkCs r.1), .int .u8 (r.2 : Nat)]
set_option maxRecDepth 100000 in
set_option maxHeartbeats 6400000 in
theorem move_any (j : JobD) (hj : JobOk j) (so : Option Addr) (sc : Nat) (x : WkD) (hx : WkOk x) (l : List ArcD) (t : List CellD) (ao bo : Option Addr) (ca cb : Nat) (fp fq : Nat → Prop) (w : World) (hl : l.length ≤ 100000) (htl0 : t.length ≤ 100000)
    (hsl : j.src.length ≤ 1000000) (hsrc : Rd w so j.src.length (u32s j.src)) (hrd : RdS arcRep fp w ao l) (hrt : RdS cellRep fq w bo t) :
    Calls Tryz.prog 23 #[.agg (jobCs j so sc), .agg (wkCs x), .slice ao l.length ca, .slice bo t.length cb] w (RetB (moveV (moveM j x l t)) w) := by
  obtain ⟨r, hr⟩ : ∃ r, r = moveM j x l t := ⟨_, rfl⟩
  rw [← hr]
  obtain ⟨W2, hW2⟩ : ∃ W2, W2 = ((w.alloc (.cells (jobCs j so sc) 29)).alloc (.cells (wkCs x) 44)).alloc (.cells #[.int .u32 0, .int .u32 0, .int .u32 0, .int .u32 0, .int .u32 0, .int .u32 0, .int .u32 0] 44) := ⟨_, rfl⟩
  have hz2 : W2.heap.size = w.heap.size + 3 := by rw [hW2]; simp
  have HB2 := Lib.hid (show Below w.heap.size w W2 by rw [hW2]; exact ((ext_alloc w _).alloc (by simp) _).alloc (by simp; omega) _)
  have Hj2 := Lib.hid (show W2.heap[w.heap.size]? = some (.cells #[.int .u8 (j.kind : Nat), .int .u64 (j.seed : Nat), .int .u32 (j.length : Nat), .int .u32 (j.walks : Nat), .slice so j.src.length sc, .int .u32 (j.stop : Nat), .int .u32 (j.od : Nat), .int .u32 (j.p : Nat), .int .u32 (j.q : Nat), .int .u32 (j.tries : Nat), .int .u32 (j.best : Nat), .int .u32 (j.bsh : Nat), .int .u32 (j.bro : Nat), .int .u32 (j.bpo : Nat), .int .u32 (j.bso : Nat)] 29 (0, 0)) by rw [hW2]; exact (Below.heap_alloc _ _ _ (by simp; omega)).trans (heap_alloc2_old _ _ _))
  have Hx2 := Lib.hid (show W2.heap[w.heap.size + 1]? = some (.cells #[.int .u32 (x.id : Nat), .int .u32 (x.step : Nat), .int .u32 (x.at_ : Nat), .int .u32 (x.prev : Nat), .int .u32 (x.next : Nat), .int .u32 (x.try_ : Nat), .int .u32 (x.state : Nat)] 44 (0, 0)) by rw [hW2]; exact (Below.heap_alloc _ _ _ (by simp)).trans (heap_alloc2_new _ _ _))
  have Hz2 := Lib.hid (show W2.heap[w.heap.size + 2]? = some (.cells wkZ 44 (0, 0)) by
    have h := heap_alloc_new ((w.alloc (.cells (jobCs j so sc) 29)).alloc (.cells (wkCs x) 44)) (.cells wkZ 44)
    rw [World.size_alloc, World.size_alloc] at h
    rw [hW2]; exact h)
  have HS2 := Lib.hid hW2
  clear hW2
  go_enter Tryz.func23, Tryz.ntmps23
  go_upto_region 1 with fail
  have hW2 := HS2.out
  rw [← hW2]
  clear hW2
  refine wp_scope_once 0 rfl ?_
  go_upto_region 2 with (first
    | (refine wpList_load_row rfl _ _ rfl w.heap.size rfl 29 #[.int .u8 (j.kind : Nat), .int .u64 (j.seed : Nat), .int .u32 (j.length : Nat), .int .u32 (j.walks : Nat), .slice so j.src.length sc, .int .u32 (j.stop : Nat), .int .u32 (j.od : Nat), .int .u32 (j.p : Nat), .int .u32 (j.q : Nat), .int .u32 (j.tries : Nat), .int .u32 (j.best : Nat), .int .u32 (j.bsh : Nat), .int .u32 (j.bro : Nat), .int .u32 (j.bpo : Nat), .int .u32 (j.bso : Nat)] (0, 0) _ Hj2.out Tryz.underlying29 rfl (show _ = some 15 by kernel_rfl) ?_)
    | (refine wpList_load_row rfl _ _ rfl (w.heap.size + 1) rfl 44 #[.int .u32 (x.id : Nat), .int .u32 (x.step : Nat), .int .u32 (x.at_ : Nat), .int .u32 (x.prev : Nat), .int .u32 (x.next : Nat), .int .u32 (x.try_ : Nat), .int .u32 (x.state : Nat)] (0, 0) _ Hx2.out Tryz.underlying44 rfl (show _ = some 7 by kernel_rfl) ?_))
  obtain ⟨W3, hW3⟩ : ∃ W3, W2.alloc (.cells #[.int .u32 (x.id : Nat), .int .u32 (x.step : Nat), .int .u32 (x.at_ : Nat), .int .u32 (x.prev : Nat), .int .u32 (x.next : Nat), .int .u32 (x.try_ : Nat), .int .u32 (x.state : Nat), .int .u8 (j.kind : Nat), .int .u64 (j.seed : Nat), .int .u32 (j.length : Nat), .int .u32 (j.walks : Nat), .slice so j.src.length sc, .int .u32 (j.stop : Nat), .int .u32 (j.od : Nat), .int .u32 (j.p : Nat), .int .u32 (j.q : Nat), .int .u32 (j.tries : Nat), .int .u32 (j.best : Nat), .int .u32 (j.bsh : Nat), .int .u32 (j.bro : Nat), .int .u32 (j.bpo : Nat), .int .u32 (j.bso : Nat)] 91) = W3 := ⟨_, rfl⟩
  rw [hW3]
  have HM3 := Lib.hid (show MvW w.heap.size j x so sc W3 by
    have k : ∀ i o, W2.heap[i]? = some o → W3.heap[i]? = some o := fun i o e => by rw [← hW3]; exact (Below.heap_alloc _ _ _ (Array.getElem?_eq_some_iff.1 e).1).trans e
    exact ⟨k _ _ Hj2.out, k _ _ Hx2.out, k _ _ Hz2.out, by rw [← hW3, ← hz2]; exact heap_alloc_new _ _⟩)
  have HB3 := Lib.hid (show Below w.heap.size w W3 by rw [← hW3]; exact HB2.out.alloc HB2.out.size _)
  have hz3 : w.heap.size + 4 ≤ W3.heap.size := by rw [← hW3, World.size_alloc]; omega
  clear hW3
  generalize (Value.agg #[.int .u32 (x.id : Nat), .int .u32 (x.step : Nat), .int .u32 (x.at_ : Nat), .int .u32 (x.prev : Nat), .int .u32 (x.next : Nat), .int .u32 (x.try_ : Nat), .int .u32 (x.state : Nat), .int .u8 (j.kind : Nat), .int .u64 (j.seed : Nat), .int .u32 (j.length : Nat), .int .u32 (j.walks : Nat), .slice so j.src.length sc, .int .u32 (j.stop : Nat), .int .u32 (j.od : Nat), .int .u32 (j.p : Nat), .int .u32 (j.q : Nat), .int .u32 (j.tries : Nat), .int .u32 (j.best : Nat), .int .u32 (j.bsh : Nat), .int .u32 (j.bro : Nat), .int .u32 (j.bpo : Nat), .int .u32 (j.bso : Nat)]) = z22
  generalize (Value.agg #[.int .u8 (j.kind : Nat), .int .u64 (j.seed : Nat), .int .u32 (j.length : Nat), .int .u32 (j.walks : Nat), .slice so j.src.length sc, .int .u32 (j.stop : Nat), .int .u32 (j.od : Nat), .int .u32 (j.p : Nat), .int .u32 (j.q : Nat), .int .u32 (j.tries : Nat), .int .u32 (j.best : Nat), .int .u32 (j.bsh : Nat), .int .u32 (j.bro : Nat), .int .u32 (j.bpo : Nat), .int .u32 (j.bso : Nat)]) = z21
  generalize (Value.agg #[.int .u32 (x.id : Nat), .int .u32 (x.step : Nat), .int .u32 (x.at_ : Nat), .int .u32 (x.prev : Nat), .int .u32 (x.next : Nat), .int .u32 (x.try_ : Nat), .int .u32 (x.state : Nat)]) = z20
  generalize hz0 : (Value.agg (jobCs j so sc)) = z0
  generalize hz1 : (Value.agg (wkCs x)) = z1
  have HMy := Lib.hid (fun W (h : Below w.heap.size w W) => mayw_any j hj so sc x hx W hsl (hsrc.ext h))
  have HGm := Lib.hid (fun W (h : Below w.heap.size w W) => gmay_any l ao ca fp W hl (hrd.ext h))
  have HIj := Lib.hid (show (Tryz.prog.info? 29).map (·.size) = some (jobCs j so sc).size by kernel_rfl)
  have HIx := Lib.hid (show (Tryz.prog.info? 44).map (·.size) = some (wkCs x).size by kernel_rfl)
  clear hz0 hz1 hz2 HB2 Hj2 Hx2 Hz2 HS2
  have HQ := Lib.hid hr
  clear hr
  by_cases hmw : mayW j x = true
  case neg =>
    have hmf : mayW j x = false := by simpa using hmw
    have hr := HQ.out
    unfold moveM at hr
    rw [hmf] at hr
    simp only [Bool.not_false, Bool.true_or, if_true] at hr
    rw [hmf] at HMy
    subst hr
    clear HQ hmw hmf
    go_upto_region 5 with (first
      | (refine wpList_load_row rfl _ _ rfl w.heap.size rfl 29 (jobCs j so sc) (0, 0) _ HM3.out.job Tryz.underlying29 rfl HIj.out ?_)
      | (refine wpList_load_row rfl _ _ rfl (w.heap.size + 1) rfl 44 (wkCs x) (0, 0) _ HM3.out.wk Tryz.underlying44 rfl HIx.out ?_)
      | (go_at_call 43; (with_reducible refine (HMy.out _ HB3.out).mono ?_); rintro e w4 ⟨rfl, hB⟩; have M4 := Lib.hid (HM3.out.ext hB); have B4 := Lib.hid (HB3.out.trans (hB.mono HB3.out.size)); clear hB)
      | (go_at_call 44; (with_reducible refine (HGm.out _ B4.out).mono ?_); rintro e w5 ⟨rfl, hB⟩; have M5 := Lib.hid (M4.out.ext hB); have B5 := Lib.hid (B4.out.trans (hB.mono B4.out.size)); clear hB))
    go_wp2_with (first
      | (refine wpList_load_row rfl _ _ rfl (w.heap.size + 1) rfl 44 (wkCs x) (0, 0) _ M4.out.wk Tryz.underlying44 rfl HIx.out ?_)
      | (refine wpList_store_row rfl _ _ _ rfl rfl rfl M4.out.res rfl (wk_info _) (wkCs_one _) ?_; intro w9 hg9 ho9; have Hg9 := Lib.hid hg9; have Ho9 := Lib.hid ho9; clear hg9 ho9))
    try simp only [Exit.jump]
    try rw [Exit.noGoto_ret]
    refine bodyPost_ret (results_row_tmp rfl _ _ (w.heap.size + 1 + 1) 44 (wkCs x) (0, 0) _ rfl Hg9.out Tryz.underlying44 rfl (wk_info _)) rfl ⟨by first | rfl | (rw [Hr.out]; rfl), B4.out.trans (Ho9.out.below B4.out.size (fun k hk e => by omega))⟩
  have hd := mayW_dest hmw
  rw [hmw] at HMy
  by_cases hma : mayA l = true
  case neg =>
    have hmf : mayA l = false := by simpa using hma
    have hr := HQ.out
    unfold moveM at hr
    rw [hmw, hmf] at hr
    simp only [Bool.not_false, Bool.not_true, Bool.or_true, Bool.or_false, Bool.false_or, if_true] at hr
    rw [hmf] at HGm
    subst hr
    clear HQ hmw hmf hd
    go_upto_region 5 with (first
      | (refine wpList_load_row rfl _ _ rfl w.heap.size rfl 29 (jobCs j so sc) (0, 0) _ HM3.out.job Tryz.underlying29 rfl HIj.out ?_)
      | (refine wpList_load_row rfl _ _ rfl (w.heap.size + 1) rfl 44 (wkCs x) (0, 0) _ HM3.out.wk Tryz.underlying44 rfl HIx.out ?_)
      | (go_at_call 43; (with_reducible refine (HMy.out _ HB3.out).mono ?_); rintro e w4 ⟨rfl, hB⟩; have M4 := Lib.hid (HM3.out.ext hB); have B4 := Lib.hid (HB3.out.trans (hB.mono HB3.out.size)); clear hB)
      | (go_at_call 44; (with_reducible refine (HGm.out _ B4.out).mono ?_); rintro e w5 ⟨rfl, hB⟩; have M5 := Lib.hid (M4.out.ext hB); have B5 := Lib.hid (B4.out.trans (hB.mono B4.out.size)); clear hB))
    go_wp2_with (first
      | (refine wpList_load_row rfl _ _ rfl (w.heap.size + 1) rfl 44 (wkCs x) (0, 0) _ M5.out.wk Tryz.underlying44 rfl HIx.out ?_)
      | (refine wpList_store_row rfl _ _ _ rfl rfl rfl M5.out.res rfl (wk_info _) (wkCs_one _) ?_; intro w9 hg9 ho9; have Hg9 := Lib.hid hg9; have Ho9 := Lib.hid ho9; clear hg9 ho9))
    try simp only [Exit.jump]
    try rw [Exit.noGoto_ret]
    refine bodyPost_ret (results_row_tmp rfl _ _ (w.heap.size + 1 + 1) 44 (wkCs x) (0, 0) _ rfl Hg9.out Tryz.underlying44 rfl (wk_info _)) rfl ⟨by first | rfl | (rw [Hr.out]; rfl), B5.out.trans (Ho9.out.below B5.out.size (fun k hk e => by omega))⟩
  rw [hma] at HGm
  have hr := HQ.out
  unfold moveM at hr
  rw [hmw, hma, if_neg (by simp)] at hr
  have hpw := (of_decide_eq_true hma).2.1
  clear HQ
  go_upto_region 6 with (first
    | (refine wpList_load_row rfl _ _ rfl w.heap.size rfl 29 (jobCs j so sc) (0, 0) _ HM3.out.job Tryz.underlying29 rfl HIj.out ?_)
    | (refine wpList_load_row rfl _ _ rfl (w.heap.size + 1) rfl 44 (wkCs x) (0, 0) _ HM3.out.wk Tryz.underlying44 rfl HIx.out ?_)
    | (go_at_call 43; (with_reducible refine (HMy.out _ HB3.out).mono ?_); rintro e w4 ⟨rfl, hB⟩; have M4 := Lib.hid (HM3.out.ext hB); have B4 := Lib.hid (HB3.out.trans (hB.mono HB3.out.size)); clear hB)
    | (go_at_call 44; (with_reducible refine (HGm.out _ B4.out).mono ?_); rintro e w5 ⟨rfl, hB⟩; have M5 := Lib.hid (M4.out.ext hB); have B5 := Lib.hid (B4.out.trans (hB.mono B4.out.size)); clear hB))
  obtain ⟨x0, x1, x2, x3, x4, x5, x6⟩ := wk_cells M5.out.wk
  have g0 : w5.cell? ⟨w.heap.size, 0, none⟩ = some (.int .u8 (j.kind : Nat)) := cell_of_row w5 _ 0 _ _ (0, 0) M5.out.job
  have g2 : w5.cell? ⟨w.heap.size, 2, none⟩ = some (.int .u32 (j.length : Nat)) := cell_of_row w5 _ 2 _ _ (0, 0) M5.out.job
  have g4 : w5.cell? ⟨w.heap.size, 4, none⟩ = some (.slice so j.src.length sc) := cell_of_row w5 _ 4 _ _ (0, 0) M5.out.job
  by_cases hst : x.state = 1
  · have s1 : ((x.state : Int) == 1) = true := by rw [hst]; rfl
    have s1' : (x.state == 1) = true := by rw [hst]; rfl
    rw [if_pos hst] at hr
    have Hr := Lib.hid hr
    have HFd := Lib.hid (fun W (h : Below w.heap.size w W) => afind_any l x.next ao ca fp W hl hpw (hrd.ext h))
    have HAc := Lib.hid (fun W (h : MvW w.heap.size j x so sc W) => maccepts_any (w.heap.size + 3) x hx j hj x.next (nearM l x.next) W h.s)
    have htr := hd.try_
    have hto := hx.next
    clear hr hst hmw hma hpw hd x0 x1 x2 x3 x5 g0 g2 g4
    go_upto_region 8 with (go_at_call 45; (with_reducible refine (HFd.out _ B5.out).mono ?_); rintro e w6 ⟨fi, hfi, rfl, _, hB⟩; have M6 := Lib.hid (M5.out.ext hB); have B6 := Lib.hid (B5.out.trans (hB.mono B5.out.size)); have k4 := (wk_cells M6.out.wk).2.2.2.2.1; clear hB hfi)
    generalize nearM l x.next = near at *
    have d4 : (World.drew w6).cell? ⟨w.heap.size + 1, 4, none⟩ = some (.int .u32 (x.next : Nat)) := k4
    go_region_held3 (fun w' => w'.cell? ⟨w.heap.size + 1, 4, none⟩ = some (.int .u32 (x.next : Nat)))
      (first | exact d4 | exact HP7.out)
      (first
        | (go_at_call 46; (with_reducible refine (HAc.out _ (M6.out.ext (ext_drew w6))).mono ?_); rintro e w7 ⟨rfl, hB⟩; have hB7 := (ext_drew w6).trans hB; have M7 := Lib.hid (M6.out.ext hB7); have B7 := Lib.hid (B6.out.trans (hB7.mono B6.out.size)); have HP7 := Lib.hid ((wk_cells M7.out.wk).2.2.2.2.1); clear hB hB7)
        | fail "no arm")
    clear k4 d4 x4 x6
    cases hac : acceptsM j x x.next near with
    | true =>
      rw [hac] at Hr
      simp only [if_true] at Hr
      have HSt := Lib.hid (fun W (h : MvW w.heap.size j x so sc W) => (show Calls Tryz.prog 49 #[.pointer (some ⟨w.heap.size + 3, 0, none⟩), .int .u32 (x.next : Nat)] W (RetB (.tuple #[.agg (wkCs (stepsM j x x.next).1), .int .u8 2]) W) from msteps_any (w.heap.size + 3) x j x.next W h.s))
      clear hac
      go_wp2_with fail
      go_step3
      refine ⟨rfl, ?_⟩
      go_wp2_with (first
        | (go_at_call 49; (with_reducible refine (HSt.out _ M7.out).mono ?_); rintro e w8 ⟨rfl, hB⟩; have M8 := Lib.hid (M7.out.ext hB); have B8 := Lib.hid (B7.out.trans (hB.mono B7.out.size)); clear hB)
        | (refine wpList_store_row rfl _ _ _ rfl rfl rfl M8.out.res rfl (wk_info _) (wkCs_one _) ?_; intro w9 hg9 ho9; have Hg9 := Lib.hid hg9; have Ho9 := Lib.hid ho9; clear hg9 ho9))
      try simp only [Exit.jump]
      try rw [Exit.noGoto_ret]
      refine bodyPost_ret (results_row_tmp rfl _ _ (w.heap.size + 1 + 1) 44 _ (0, 0) _ rfl Hg9.out Tryz.underlying44 rfl (wk_info _)) rfl ⟨by first | rfl | (rw [Hr.out]; rfl), B8.out.trans (Ho9.out.below B8.out.size (fun k hk e => by omega))⟩
    | false =>
      rw [hac] at Hr
      simp only [Bool.false_eq_true, if_false] at Hr
      have HLo := Lib.hid (fun W (h : MvW w.heap.size j x so sc W) => mlost_any (w.heap.size + 3) x hx j hj htr W h.s)
      clear hac
      go_wp2_with fail
      go_step3
      refine ⟨rfl, ?_⟩
      go_wp2_with (first
        | (go_at_call 55; (with_reducible refine (HLo.out _ M7.out).mono ?_); rintro e w8 ⟨rfl, hO⟩; have hR8 := (hO.same (w.heap.size + 2) (Array.getElem?_eq_some_iff.1 M7.out.res).1 (by omega)).trans M7.out.res; have R8 := Lib.hid hR8; have B8 := Lib.hid (B7.out.trans (hO.below B7.out.size (fun k hk e => by omega))); clear hO hR8)
        | (refine wpList_store_row rfl _ _ _ rfl rfl rfl R8.out rfl (wk_info _) (wkCs_one _) ?_; intro w9 hg9 ho9; have Hg9 := Lib.hid hg9; have Ho9 := Lib.hid ho9; clear hg9 ho9))
      try simp only [Exit.jump]
      try rw [Exit.noGoto_ret]
      refine bodyPost_ret (results_row_tmp rfl _ _ (w.heap.size + 1 + 1) 44 _ (0, 0) _ rfl Hg9.out Tryz.underlying44 rfl (wk_info _)) rfl ⟨by first | rfl | (rw [Hr.out]; rfl), B8.out.trans (Ho9.out.below B8.out.size (fun k hk e => by omega))⟩
  have s1 : ((x.state : Int) == 1) = false := beq_eq_false_iff_ne.2 (by omega)
  have s1' : (x.state == 1) = false := beq_eq_false_iff_ne.2 hst
  rw [if_neg hst] at hr
  by_cases hsl2 : x.step = j.length
  · have e1 : ((x.step : Int) == (j.length : Int)) = true := beq_iff_eq.2 (by omega)
    have e1' : (x.step == j.length) = true := beq_iff_eq.2 hsl2
    rw [if_pos (.inl hsl2)] at hr
    have Hr := Lib.hid hr
    clear hr hst hmw hma hpw hd x0 x2 x3 x4 x5 g0 g4 hsl2
    go_wp2_with (first
      | (refine wpList_load_row rfl _ _ rfl (w.heap.size + 1) rfl 44 (wkCs x) (0, 0) _ M5.out.wk Tryz.underlying44 rfl HIx.out ?_)
      | (refine wpList_store_row rfl _ _ _ rfl rfl rfl M5.out.res rfl (wk_info _) (wkCs_one _) ?_; intro w9 hg9 ho9; have Hg9 := Lib.hid hg9; have Ho9 := Lib.hid ho9; clear hg9 ho9))
    try simp only [Exit.jump]
    try rw [Exit.noGoto_ret]
    refine bodyPost_ret (results_row_tmp rfl _ _ (w.heap.size + 1 + 1) 44 (wkCs x) (0, 0) _ rfl Hg9.out Tryz.underlying44 rfl (wk_info _)) rfl ⟨by first | rfl | (rw [Hr.out]; rfl), B5.out.trans (Ho9.out.below B5.out.size (fun k hk e => by omega))⟩
  have e1 : ((x.step : Int) == (j.length : Int)) = false := beq_eq_false_iff_ne.2 (by omega)
  have e1' : (x.step == j.length) = false := beq_eq_false_iff_ne.2 hsl2
  by_cases hln : l = []
  · rw [if_pos (.inr hln)] at hr
    have Hr := Lib.hid hr
    have hn0 : l.length = 0 := by rw [hln]; rfl
    have e2 : ((l.length : Int) == 0) = true := by rw [hn0]; rfl
    have e2' : (l.length == 0) = true := by rw [hn0]; rfl
    clear hr hst hmw hma hpw hd x0 x2 x3 x4 x5 g0 g4 hsl2 hln hn0
    go_wp2_with (first
      | (refine wpList_load_row rfl _ _ rfl (w.heap.size + 1) rfl 44 (wkCs x) (0, 0) _ M5.out.wk Tryz.underlying44 rfl HIx.out ?_)
      | (refine wpList_store_row rfl _ _ _ rfl rfl rfl M5.out.res rfl (wk_info _) (wkCs_one _) ?_; intro w9 hg9 ho9; have Hg9 := Lib.hid hg9; have Ho9 := Lib.hid ho9; clear hg9 ho9))
    try simp only [Exit.jump]
    try rw [Exit.noGoto_ret]
    refine bodyPost_ret (results_row_tmp rfl _ _ (w.heap.size + 1 + 1) 44 (wkCs x) (0, 0) _ rfl Hg9.out Tryz.underlying44 rfl (wk_info _)) rfl ⟨by first | rfl | (rw [Hr.out]; rfl), B5.out.trans (Ho9.out.below B5.out.size (fun k hk e => by omega))⟩
  have hn1 : 0 < l.length := List.length_pos_iff.2 hln
  have e2 : ((l.length : Int) == 0) = false := beq_eq_false_iff_ne.2 (by omega)
  have e2' : (l.length == 0) = false := beq_eq_false_iff_ne.2 (by omega)
  rw [if_neg (by rintro (h | h); exact hsl2 h; exact hln h)] at hr
  have HRs := Lib.hid (fun W (h : MvW w.heap.size j x so sc W) => restarts_any (w.heap.size + 3) x hx j hj W h.s)
  cases hrs : restartsM j x with
  | true =>
    rw [hrs] at hr HRs
    simp only [if_true] at hr
    have Hr := Lib.hid hr
    have hk := srcN_lt (of_decide_eq_true hd.src)
    have HSo := Lib.hid (fun W (h : Below w.heap.size w W) => (show Calls Tryz.prog 48 #[.agg (jobCs j so sc), .int .u32 (x.id : Nat)] W (RetB (.tuple #[.int .i64 (srcN j x.id : Nat), .bool true]) W) from by
      have h2 := jsource_any j hj so sc x.id hx.id W hsl (hsrc.ext h)
      unfold sourceV at h2
      rw [hd.src] at h2
      exact h2))
    obtain ⟨sb, soff, rfl, hsb, hsc⟩ := hsrc.pos (by omega)
    have hsv := hsc _ hk
    simp only [u32s, List.getElem?_map, List.getElem?_eq_getElem hk, Option.map_some] at hsv
    rw [← getElem!_pos j.src _ hk] at hsv
    have Hsv := Lib.hid (fun W (h : Below w.heap.size w W) => (((bcell h).1 _ _ hsb).trans hsv))
    have HSt := Lib.hid (fun W (h : MvW w.heap.size j x (some ⟨sb, soff, none⟩) sc W) => (show Calls Tryz.prog 49 #[.pointer (some ⟨w.heap.size + 3, 0, none⟩), .int .u32 (j.src[srcN j x.id]! : Nat)] W (RetB (.tuple #[.agg (wkCs (stepsM j x j.src[srcN j x.id]!).1), .int .u8 2]) W) from msteps_any (w.heap.size + 3) x j _ W h.s))
    generalize j.src[srcN j x.id]! = tv at *
    generalize srcN j x.id = sn at *
    have hir : (sn : Int) < (j.src.length : Int) := by omega
    clear hr hst hmw hma hpw hd x0 x2 x3 x4 x5 g0 g4 hsl2 hln hn1 hrs hsv hsc
    go_wp2_with (first
      | (refine wpList_load_row rfl _ _ rfl w.heap.size rfl 29 (jobCs j (some ⟨sb, soff, none⟩) sc) (0, 0) _ M6.out.job Tryz.underlying29 rfl HIj.out ?_)
      | (go_at_call 47; (with_reducible refine (HRs.out _ M5.out).mono ?_); rintro e w6 ⟨rfl, hB⟩; have M6 := Lib.hid (M5.out.ext hB); have B6 := Lib.hid (B5.out.trans (hB.mono B5.out.size)); have k0 := (wk_cells M6.out.wk).1; clear hB)
      | (go_at_call 48; (with_reducible refine (HSo.out _ B6.out).mono ?_); rintro e w7 ⟨rfl, hB⟩; have M7 := Lib.hid (M6.out.ext hB); have B7 := Lib.hid (B6.out.trans (hB.mono B6.out.size)); have q4 : w7.cell? ⟨w.heap.size, 4, none⟩ = some (.slice (some ⟨sb, soff, none⟩) j.src.length sc) := cell_of_row w7 _ 4 _ _ (0, 0) M7.out.job; have qs := Hsv.out _ B7.out; clear hB)
      | (go_at_call 49; (with_reducible refine (HSt.out _ M7.out).mono ?_); rintro e w8 ⟨rfl, hB⟩; have M8 := Lib.hid (M7.out.ext hB); have B8 := Lib.hid (B7.out.trans (hB.mono B7.out.size)); clear hB)
      | (refine wpList_store_row rfl _ _ _ rfl rfl rfl M8.out.res rfl (wk_info _) (wkCs_one _) ?_; intro w9 hg9 ho9; have Hg9 := Lib.hid hg9; have Ho9 := Lib.hid ho9; clear hg9 ho9))
    try simp only [Exit.jump]
    try rw [Exit.noGoto_ret]
    refine bodyPost_ret (results_row_tmp rfl _ _ (w.heap.size + 1 + 1) 44 _ (0, 0) _ rfl Hg9.out Tryz.underlying44 rfl (wk_info _)) rfl ⟨by first | rfl | (rw [Hr.out]; rfl), B8.out.trans (Ho9.out.below B8.out.size (fun k hk e => by omega))⟩
  | false =>
    rw [hrs] at hr HRs
    simp only [Bool.false_eq_true, if_false] at hr
    have hxt := hx.try_
    have htl := totalM_le hl
    have HTp := Lib.hid (fun W (h : MvW w.heap.size j x so sc W) => (show Calls Tryz.prog 52 #[.pointer (some ⟨w.heap.size + 3, 0, none⟩), .int .u64 (x.try_ : Nat), .int .u64 1] W (RetB (.agg #[.int .u64 (j.seed : Nat), .int .u64 (x.id : Nat), .int .u64 (x.step : Nat), .int .u64 ((2 * x.try_ + 1 : Nat) : Nat)]) W) from tape_any (w.heap.size + 3) x hx j x.try_ 1 (by omega) W h.s))
    have HTo := Lib.hid (fun W (h : Below w.heap.size w W) => total_any l ao ca fp W hl (hrd.ext h))
    have HBe := Lib.hid (fun W => (show Calls Tryz.prog 51 #[.agg #[.int .u64 (j.seed : Nat), .int .u64 (x.id : Nat), .int .u64 (x.step : Nat), .int .u64 ((2 * x.try_ + 1 : Nat) : Nat)], .int .u64 (totalM l : Nat)] W (RetB (.int .u64 (drwN j x (2 * x.try_ + 1) (totalM l) : Nat)) W) from below_nat j.seed x.id x.step (2 * x.try_ + 1) (totalM l) (by omega) W))
    have hX : drwN j x (2 * x.try_ + 1) (totalM l) < 18446744073709551616 := by
      rcases Nat.eq_zero_or_pos (totalM l) with e | e
      · rw [e]; simp [drwN, belowZ]
      · have := drwN_lt j x (2 * x.try_ + 1) (totalM l) e; omega
    have HAl := Lib.hid (fun W (h : Below w.heap.size w W) => alias_any l t (drwN j x (2 * x.try_ + 1) (totalM l)) hX ao bo ca cb fp fq W hl htl0 (hrd.ext h) (hrt.ext h))
    generalize drwN j x (2 * x.try_ + 1) (totalM l) = X at *
    generalize totalM l = tot at *
    have hk2 := hx.try_
    cases hal : aliasM l t X with
    | none =>
      rw [hal] at hr HAl
      simp only at hr
      unfold aliasV at HAl
      have Hr := Lib.hid hr
      clear hr hst hmw hma hpw hd x0 x2 x3 x4 x5 g0 g4 hsl2 hln hn1 hrs hal
      generalize 2 * x.try_ + 1 = att at *
      go_wp2_with (first
        | (go_at_call 47; (with_reducible refine (HRs.out _ M5.out).mono ?_); rintro e w6 ⟨rfl, hB⟩; have M6 := Lib.hid (M5.out.ext hB); have B6 := Lib.hid (B5.out.trans (hB.mono B5.out.size)); have k5 := (wk_cells M6.out.wk).2.2.2.2.2.1; clear hB)
        | (go_at_call 52; (with_reducible refine (HTp.out _ M6.out).mono ?_); rintro e w7 ⟨rfl, hB⟩; have M7 := Lib.hid (M6.out.ext hB); have B7 := Lib.hid (B6.out.trans (hB.mono B6.out.size)); clear hB)
        | (go_at_call 53; (with_reducible refine (HTo.out _ B7.out).mono ?_); rintro e w8 ⟨rfl, hB⟩; have M8 := Lib.hid (M7.out.ext hB); have B8 := Lib.hid (B7.out.trans (hB.mono B7.out.size)); clear hB)
        | (go_at_call 51; (with_reducible refine (HBe.out _).mono ?_); rintro e w9 ⟨rfl, hB⟩; have M9 := Lib.hid (M8.out.ext hB); have B9 := Lib.hid (B8.out.trans (hB.mono B8.out.size)); clear hB)
        | (go_at_call 50; (with_reducible refine (HAl.out _ B9.out).mono ?_); rintro e w10 ⟨rfl, hB⟩; have M10 := Lib.hid (M9.out.ext hB); have B10 := Lib.hid (B9.out.trans (hB.mono B9.out.size)); clear hB)
        | (refine wpList_load_row rfl _ _ rfl (w.heap.size + 1) rfl 44 (wkCs x) (0, 0) _ M10.out.wk Tryz.underlying44 rfl HIx.out ?_)
        | (refine wpList_store_row rfl _ _ _ rfl rfl rfl M10.out.res rfl (wk_info _) (wkCs_one _) ?_; intro w11 hg9 ho9; have Hg9 := Lib.hid hg9; have Ho9 := Lib.hid ho9; clear hg9 ho9))
      try simp only [Exit.jump]
      try rw [Exit.noGoto_ret]
      refine bodyPost_ret (results_row_tmp rfl _ _ (w.heap.size + 1 + 1) 44 _ (0, 0) _ rfl Hg9.out Tryz.underlying44 rfl (wk_info _)) rfl ⟨by first | rfl | (rw [Hr.out]; rfl), B10.out.trans (Ho9.out.below B10.out.size (fun k hk e => by omega))⟩
    | some i =>
      rw [hal] at hr HAl
      simp only at hr
      unfold aliasV at HAl
      unfold takeM at hr
      have hi := aliasM_lt hal
      obtain ⟨b, off, rfl, hb, hc0, hc1, hok⟩ := hrd.arc i hi
      clear hc1
      rw [getElem!_pos l i hi] at hr
      have HKa := Lib.hid (fun W (h : Below w.heap.size w W) => (((bcell h).1 _ _ hb).trans hc0))
      have htv : l[i].1 < 4294967296 := hok.1
      generalize l[i].1 = tv at *
      have hir : (i : Int) < (l.length : Int) := by omega
      have HSt := Lib.hid (fun W (h : MvW w.heap.size j x so sc W) => (show Calls Tryz.prog 49 #[.pointer (some ⟨w.heap.size + 3, 0, none⟩), .int .u32 (tv : Nat)] W (RetB (.tuple #[.agg (wkCs (stepsM j x tv).1), .int .u8 2]) W) from msteps_any (w.heap.size + 3) x j tv W h.s))
      have HLo := Lib.hid (fun W (h : MvW w.heap.size j x so sc W) => mlost_any (w.heap.size + 3) x hx j hj hd.try_ W h.s)
      have HSu := Lib.hid (fun W (h : MvW w.heap.size j x so sc W) => msure_any (w.heap.size + 3) x hx j hj tv W h.s)
      clear hmw hma hpw hd x0 x2 x3 x4 x5 g0 g4 hsl2 hln hn1 hrs hal hc0 hst
      generalize 2 * x.try_ + 1 = att at *
      by_cases hk2 : j.kind = 2
      case neg =>
        have d1 : ((j.kind : Int) == 2) = false := beq_eq_false_iff_ne.2 (by omega)
        have d1' : (j.kind == 2) = false := beq_eq_false_iff_ne.2 hk2
        rw [if_neg (fun h => hk2 h.1)] at hr
        have Hr := Lib.hid hr
        clear hr hk2
        go_wp2_with (first
          | (go_at_call 47; (with_reducible refine (HRs.out _ M5.out).mono ?_); rintro e w6 ⟨rfl, hB⟩; have M6 := Lib.hid (M5.out.ext hB); have B6 := Lib.hid (B5.out.trans (hB.mono B5.out.size)); have k5 := (wk_cells M6.out.wk).2.2.2.2.2.1; clear hB)
          | (go_at_call 52; (with_reducible refine (HTp.out _ M6.out).mono ?_); rintro e w7 ⟨rfl, hB⟩; have M7 := Lib.hid (M6.out.ext hB); have B7 := Lib.hid (B6.out.trans (hB.mono B6.out.size)); clear hB)
          | (go_at_call 53; (with_reducible refine (HTo.out _ B7.out).mono ?_); rintro e w8 ⟨rfl, hB⟩; have M8 := Lib.hid (M7.out.ext hB); have B8 := Lib.hid (B7.out.trans (hB.mono B7.out.size)); clear hB)
          | (go_at_call 51; (with_reducible refine (HBe.out _).mono ?_); rintro e w9 ⟨rfl, hB⟩; have M9 := Lib.hid (M8.out.ext hB); have B9 := Lib.hid (B8.out.trans (hB.mono B8.out.size)); clear hB)
          | (go_at_call 50; (with_reducible refine (HAl.out _ B9.out).mono ?_); rintro e w10 ⟨rfl, hB⟩; have M10 := Lib.hid (M9.out.ext hB); have B10 := Lib.hid (B9.out.trans (hB.mono B9.out.size)); have ka := HKa.out _ B10.out; have kd : w10.cell? ⟨w.heap.size, 0, none⟩ = some (.int .u8 (j.kind : Nat)) := cell_of_row w10 _ 0 _ _ (0, 0) M10.out.job; have k1 := (wk_cells M10.out.wk).2.1; clear hB)
          | fail)
        go_step3
        go_wp2_with (first
          | (go_at_call 49; (with_reducible refine (HSt.out _ M10.out).mono ?_); rintro e w8 ⟨rfl, hB⟩; have M8 := Lib.hid (M10.out.ext hB); have B8 := Lib.hid (B10.out.trans (hB.mono B10.out.size)); clear hB)
          | (refine wpList_store_row rfl _ _ _ rfl rfl rfl M8.out.res rfl (wk_info _) (wkCs_one _) ?_; intro w9 hg9 ho9; have Hg9 := Lib.hid hg9; have Ho9 := Lib.hid ho9; clear hg9 ho9))
        try simp only [Exit.jump]
        try rw [Exit.noGoto_ret]
        refine bodyPost_ret (results_row_tmp rfl _ _ (w.heap.size + 1 + 1) 44 _ (0, 0) _ rfl Hg9.out Tryz.underlying44 rfl (wk_info _)) rfl ⟨by first | rfl | (rw [Hr.out]; rfl), B8.out.trans (Ho9.out.below B8.out.size (fun k hk e => by omega))⟩
      have d1 : ((j.kind : Int) == 2) = true := by rw [hk2]; rfl
      have d1' : (j.kind == 2) = true := by rw [hk2]; rfl
      by_cases hs0 : 0 < x.step
      case neg =>
        have d2 : decide ((0 : Int) < (x.step : Int)) = false := decide_eq_false (by omega)
        have d2' : decide (0 < x.step) = false := decide_eq_false hs0
        rw [if_neg (fun h => hs0 h.2)] at hr
        have Hr := Lib.hid hr
        clear hr hk2 hs0
        go_wp2_with (first
          | (go_at_call 47; (with_reducible refine (HRs.out _ M5.out).mono ?_); rintro e w6 ⟨rfl, hB⟩; have M6 := Lib.hid (M5.out.ext hB); have B6 := Lib.hid (B5.out.trans (hB.mono B5.out.size)); have k5 := (wk_cells M6.out.wk).2.2.2.2.2.1; clear hB)
          | (go_at_call 52; (with_reducible refine (HTp.out _ M6.out).mono ?_); rintro e w7 ⟨rfl, hB⟩; have M7 := Lib.hid (M6.out.ext hB); have B7 := Lib.hid (B6.out.trans (hB.mono B6.out.size)); clear hB)
          | (go_at_call 53; (with_reducible refine (HTo.out _ B7.out).mono ?_); rintro e w8 ⟨rfl, hB⟩; have M8 := Lib.hid (M7.out.ext hB); have B8 := Lib.hid (B7.out.trans (hB.mono B7.out.size)); clear hB)
          | (go_at_call 51; (with_reducible refine (HBe.out _).mono ?_); rintro e w9 ⟨rfl, hB⟩; have M9 := Lib.hid (M8.out.ext hB); have B9 := Lib.hid (B8.out.trans (hB.mono B8.out.size)); clear hB)
          | (go_at_call 50; (with_reducible refine (HAl.out _ B9.out).mono ?_); rintro e w10 ⟨rfl, hB⟩; have M10 := Lib.hid (M9.out.ext hB); have B10 := Lib.hid (B9.out.trans (hB.mono B9.out.size)); have ka := HKa.out _ B10.out; have kd : w10.cell? ⟨w.heap.size, 0, none⟩ = some (.int .u8 (j.kind : Nat)) := cell_of_row w10 _ 0 _ _ (0, 0) M10.out.job; have k1 := (wk_cells M10.out.wk).2.1; clear hB)
          | fail)
        go_step3
        go_wp2_with (first
          | (go_at_call 49; (with_reducible refine (HSt.out _ M10.out).mono ?_); rintro e w8 ⟨rfl, hB⟩; have M8 := Lib.hid (M10.out.ext hB); have B8 := Lib.hid (B10.out.trans (hB.mono B10.out.size)); clear hB)
          | (refine wpList_store_row rfl _ _ _ rfl rfl rfl M8.out.res rfl (wk_info _) (wkCs_one _) ?_; intro w9 hg9 ho9; have Hg9 := Lib.hid hg9; have Ho9 := Lib.hid ho9; clear hg9 ho9))
        try simp only [Exit.jump]
        try rw [Exit.noGoto_ret]
        refine bodyPost_ret (results_row_tmp rfl _ _ (w.heap.size + 1 + 1) 44 _ (0, 0) _ rfl Hg9.out Tryz.underlying44 rfl (wk_info _)) rfl ⟨by first | rfl | (rw [Hr.out]; rfl), B8.out.trans (Ho9.out.below B8.out.size (fun k hk e => by omega))⟩
      have d2 : decide ((0 : Int) < (x.step : Int)) = true := decide_eq_true (by omega)
      have d2' : decide (0 < x.step) = true := decide_eq_true hs0
      rw [if_pos ⟨hk2, hs0⟩] at hr
      have Hr := Lib.hid hr
      clear hr hk2 hs0
      go_upto_region 20 with (first
        | (go_at_call 47; (with_reducible refine (HRs.out _ M5.out).mono ?_); rintro e w6 ⟨rfl, hB⟩; have M6 := Lib.hid (M5.out.ext hB); have B6 := Lib.hid (B5.out.trans (hB.mono B5.out.size)); have k5 := (wk_cells M6.out.wk).2.2.2.2.2.1; clear hB)
          | (go_at_call 52; (with_reducible refine (HTp.out _ M6.out).mono ?_); rintro e w7 ⟨rfl, hB⟩; have M7 := Lib.hid (M6.out.ext hB); have B7 := Lib.hid (B6.out.trans (hB.mono B6.out.size)); clear hB)
          | (go_at_call 53; (with_reducible refine (HTo.out _ B7.out).mono ?_); rintro e w8 ⟨rfl, hB⟩; have M8 := Lib.hid (M7.out.ext hB); have B8 := Lib.hid (B7.out.trans (hB.mono B7.out.size)); clear hB)
          | (go_at_call 51; (with_reducible refine (HBe.out _).mono ?_); rintro e w9 ⟨rfl, hB⟩; have M9 := Lib.hid (M8.out.ext hB); have B9 := Lib.hid (B8.out.trans (hB.mono B8.out.size)); clear hB)
          | (go_at_call 50; (with_reducible refine (HAl.out _ B9.out).mono ?_); rintro e w10 ⟨rfl, hB⟩; have M10 := Lib.hid (M9.out.ext hB); have B10 := Lib.hid (B9.out.trans (hB.mono B9.out.size)); have ka := HKa.out _ B10.out; have kd : w10.cell? ⟨w.heap.size, 0, none⟩ = some (.int .u8 (j.kind : Nat)) := cell_of_row w10 _ 0 _ _ (0, 0) M10.out.job; have k1 := (wk_cells M10.out.wk).2.1; clear hB)
        | fail)
      cases ha1 : acceptsM j x tv true <;> cases ha2 : acceptsM j x tv false
      all_goals rw [ha1, ha2] at Hr HSu
      all_goals clear ha1 ha2 ka kd k1 HAl HBe HTo HTp HRs HGm HMy
      case true.true =>
        simp only [if_true, Bool.and_true, beq_self_eq_true] at Hr HSu
        go_wp2_with (first
          | (go_at_call 54; (with_reducible refine (HSu.out _ M10.out).mono ?_); rintro e w11 ⟨rfl, hB⟩; have M11 := Lib.hid (M10.out.ext hB); have B11 := Lib.hid (B10.out.trans (hB.mono B10.out.size)); clear hB)
          | fail)
        go_step3
        go_wp2_with (first
          | (go_at_call 49; (with_reducible refine (HSt.out _ M11.out).mono ?_); rintro e w8 ⟨rfl, hB⟩; have M8 := Lib.hid (M11.out.ext hB); have B8 := Lib.hid (B11.out.trans (hB.mono B11.out.size)); clear hB)
          | (refine wpList_store_row rfl _ _ _ rfl rfl rfl M8.out.res rfl (wk_info _) (wkCs_one _) ?_; intro w9 hg9 ho9; have Hg9 := Lib.hid hg9; have Ho9 := Lib.hid ho9; clear hg9 ho9))
        try simp only [Exit.jump]
        try rw [Exit.noGoto_ret]
        refine bodyPost_ret (results_row_tmp rfl _ _ (w.heap.size + 1 + 1) 44 _ (0, 0) _ rfl Hg9.out Tryz.underlying44 rfl (wk_info _)) rfl ⟨by first | rfl | (rw [Hr.out]; rfl), B8.out.trans (Ho9.out.below B8.out.size (fun k hk e => by omega))⟩
      case false.false =>
        simp only [Bool.false_eq_true, if_true, if_false, Bool.and_false, beq_self_eq_true] at Hr HSu
        go_wp2_with (first
          | (go_at_call 54; (with_reducible refine (HSu.out _ M10.out).mono ?_); rintro e w11 ⟨rfl, hB⟩; have M11 := Lib.hid (M10.out.ext hB); have B11 := Lib.hid (B10.out.trans (hB.mono B10.out.size)); clear hB)
          | fail)
        go_step3
        go_wp2_with (first
          | (go_at_call 55; (with_reducible refine (HLo.out _ M11.out).mono ?_); rintro e w8 ⟨rfl, hO⟩; have hR8 := (hO.same (w.heap.size + 2) (Array.getElem?_eq_some_iff.1 M11.out.res).1 (by omega)).trans M11.out.res; have R8 := Lib.hid hR8; have B8 := Lib.hid (B11.out.trans (hO.below B11.out.size (fun k hk e => by omega))); clear hO hR8)
          | (refine wpList_store_row rfl _ _ _ rfl rfl rfl R8.out rfl (wk_info _) (wkCs_one _) ?_; intro w9 hg9 ho9; have Hg9 := Lib.hid hg9; have Ho9 := Lib.hid ho9; clear hg9 ho9))
        try simp only [Exit.jump]
        try rw [Exit.noGoto_ret]
        refine bodyPost_ret (results_row_tmp rfl _ _ (w.heap.size + 1 + 1) 44 _ (0, 0) _ rfl Hg9.out Tryz.underlying44 rfl (wk_info _)) rfl ⟨by first | rfl | (rw [Hr.out]; rfl), B8.out.trans (Ho9.out.below B8.out.size (fun k hk e => by omega))⟩
      all_goals
        simp only [Bool.true_eq_false, Bool.false_eq_true, if_false, Bool.and_false, Bool.and_true, Bool.false_and, Bool.true_and] at Hr HSu
        go_upto_region 22 with (first
          | (go_at_call 54; (with_reducible refine (HSu.out _ M10.out).mono ?_); rintro e w11 ⟨rfl, hB⟩; have M11 := Lib.hid (M10.out.ext hB); have B11 := Lib.hid (B10.out.trans (hB.mono B10.out.size)); clear hB)
          | fail)
        obtain ⟨y0, y1, y2, y3, y4, y5, y6, _, _, _, _, _, _, _, yf⟩ := M11.out.s
        have f4 := yf 4
        have f6 := yf 6
        have hgl : w.heap.size + 3 < w11.heap.size := M11.out.s.lt
        clear yf
        go_upto_region 23 with fail
        obtain ⟨W5, hW5⟩ : ∃ W5, ((w11.setCell ⟨w.heap.size + 3, 4, none⟩ (.int .u32 (tv : Nat))).setCell ⟨w.heap.size + 3, 6, none⟩ (.int .u32 1)) = W5 := ⟨_, rfl⟩
        rw [hW5]
        have q0 : W5.cell? ⟨w.heap.size + 3, 0, none⟩ = some (.int .u32 (x.id : Nat)) := by rw [← hW5]; simp [go_sem, cell_set_ite, y0]
        have q1 : W5.cell? ⟨w.heap.size + 3, 1, none⟩ = some (.int .u32 (x.step : Nat)) := by rw [← hW5]; simp [go_sem, cell_set_ite, y1]
        have q2 : W5.cell? ⟨w.heap.size + 3, 2, none⟩ = some (.int .u32 (x.at_ : Nat)) := by rw [← hW5]; simp [go_sem, cell_set_ite, y2]
        have q3 : W5.cell? ⟨w.heap.size + 3, 3, none⟩ = some (.int .u32 (x.prev : Nat)) := by rw [← hW5]; simp [go_sem, cell_set_ite, y3]
        have q4 : W5.cell? ⟨w.heap.size + 3, 4, none⟩ = some (.int .u32 (tv : Nat)) := by rw [← hW5]; simp [go_sem, cell_set_ite, y4]
        have q5 : W5.cell? ⟨w.heap.size + 3, 5, none⟩ = some (.int .u32 (x.try_ : Nat)) := by rw [← hW5]; simp [go_sem, cell_set_ite, y5]
        have q6 : W5.cell? ⟨w.heap.size + 3, 6, none⟩ = some (.int .u32 1) := by rw [← hW5]; simp [go_sem, cell_set_ite, y6]
        have HZ := Lib.hid (show W5.heap[w.heap.size + 2]? = some (.cells wkZ 44 (0, 0)) by
          rw [← hW5]
          exact (Below.heap_setCell _ _ _ _ (by simp)).trans ((Below.heap_setCell _ _ _ _ (by simp)).trans M11.out.res))
        have HB5 := Lib.hid (show Below w.heap.size w W5 by
          rw [← hW5]
          exact (B11.out.setCell (by simp) _).setCell (by simp) _)
        clear hW5 y0 y1 y2 y3 y4 y5 y6 f4 f6 x1 x6 g2
        go_wp2_with (refine wpList_store_row rfl _ _ _ rfl rfl rfl HZ.out rfl (show _ = some 7 by kernel_rfl) (by simp [Value.oneCell']) ?_; intro w9 hg9 ho9; have Hg9 := Lib.hid hg9; have Ho9 := Lib.hid ho9; clear hg9 ho9)
        try simp only [Exit.jump]
        try rw [Exit.noGoto_ret]
        refine bodyPost_ret (results_row_tmp rfl _ _ (w.heap.size + 1 + 1) 44 _ (0, 0) _ rfl Hg9.out Tryz.underlying44 rfl (show _ = some 7 by kernel_rfl)) rfl ⟨by rw [Hr.out]; rfl, HB5.out.trans (Ho9.out.below HB5.out.size (fun k hk e => by omega))⟩
end Go.Proofs.YtcklfffeimnfeaaGreat
