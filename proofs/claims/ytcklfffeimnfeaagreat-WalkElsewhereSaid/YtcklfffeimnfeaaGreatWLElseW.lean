/- WalkElsewhere: the walk. -/
import Derived.Test.YtcklfffeimnfeaaGreatWLElseT
import Derived.BigQuiet
namespace Go.Proofs.YtcklfffeimnfeaaGreat
set_option linter.unusedSimpArgs false
set_option linter.unusedVariables false
set_option maxRecDepth 100000
open Go.RowKit

theorem elemE : Elem Tryz.prog 22 48 3 12 (.agg #[.int .u32 0, .int .u32 0, .int .u32 0]) := Elem.mk' Tryz.underlying22 (by kernel_rfl) rfl (by decide)
theorem okEE {W : World} {fp : Nat → Prop} {x : EdgeD} (h : okE x) : edgeRep.ok W fp x [.int .u32 (x.1 : Nat), .int .u32 (x.2.1 : Nat), .int .u32 (x.2.2 : Nat)] := ⟨[_], [_, _], rfl, ⟨rfl, h.1⟩, [_], [_], rfl, ⟨rfl, h.2.1⟩, ⟨rfl, h.2.2⟩⟩
theorem oneE22 : OneC edgeRep := OneC.prod (OneC.nat .u32 _) (OneC.prod (OneC.nat .u32 _) (OneC.nat .u32 _))
theorem all2_any {w w' : World} {fp : Nat → Prop} {l : List EdgeD} {css : List (List Value)} (h : All2 (fun x cs => edgeRep.ok w fp x cs) l css) : All2 (fun x cs => edgeRep.ok w' (fun _ => False) x cs) l css :=
  forall2_imp (fun x cs h => by obtain ⟨c, d, h1, h2, c2, d2, h3, h4, h5⟩ := h; exact ⟨c, d, h1, h2, c2, d2, h3, h4, h5⟩) h
def offP (F : List Nat) (e : EdgeD) : Bool := !(F.any (fun v => v == e.1))
def elK (F : List Nat) (l m : List EdgeD) (i : Nat) : List EdgeD := l ++ (m.take i).filter (offP F)
theorem elK_succ {F : List Nat} {l m : List EdgeD} {i : Nat} (h : i < m.length) : elK F l m (i + 1) = if offP F m[i] then elK F l m i ++ [m[i]] else elK F l m i := by
  unfold elK
  rw [List.take_succ_eq_append_getElem h, List.filter_append]
  by_cases e : offP F m[i] = true
  · rw [if_pos e]; simp [e]
  · rw [if_neg e]; simp [e]
theorem elK_len (F : List Nat) (l m : List EdgeD) (i : Nat) : (elK F l m i).length ≤ l.length + m.length := by
  unfold elK
  rw [List.length_append]
  have h1 := List.length_filter_le (offP F) (m.take i)
  have h2 : (m.take i).length ≤ m.length := by rw [List.length_take]; omega
  omega
def onK (F : List Nat) (f k : Nat) : Bool := (F.take k).any (fun v => v == f)
theorem onK_succ {F : List Nat} {f k : Nat} (h : k < F.length) : onK F f (k + 1) = (onK F f k || F[k] == f) := by
  unfold onK
  rw [List.take_succ_eq_append_getElem h, List.any_append]
  simp
def elI (F : List Nat) (l m : List EdgeD) (w : World) (v12 v13 : Value) (wr : World) : Prop :=
  ∃ (i : Nat) (ao : Option Addr) (cap : Nat) (g : Option Nat), i ≤ m.length ∧ v13 = .int .i64 (i : Nat) ∧ v12 = .slice ao (elK F l m i).length cap ∧ OwnS edgeRep (fun _ => False) wr ao cap g 48 (elK F l m i) ∧ (∀ k, g = some k → w.heap.size ≤ k) ∧ Below w.heap.size w wr
set_option maxRecDepth 100000 in
set_option maxHeartbeats 6400000 in
theorem else_walk (l m : List EdgeD) (eo mo : Option Addr) (ec mc : Nat) (fp fq : Nat → Prop) (j : JobD) (hj : JobOk j) (so : Option Addr) (sc id : Nat) (hid : id < 4294967296)
    (w : World) (hsrc : Rd w so j.src.length (u32s j.src)) (hrd : RdS edgeRep fp w eo l) (hrm : RdS edgeRep fq w mo m) :
    Calls Tryz.prog 7 #[.slice eo l.length ec, .slice mo m.length mc, .agg (jobCs j so sc), .int .u32 (id : Nat)] w (RetB (.bool true) w) := by
  have HA := Lib.hid awake22_any
  obtain ⟨w1, hw1⟩ : ∃ w1, w.alloc (.cells (jobCs j so sc) 29) = w1 := ⟨_, rfl⟩
  have B1 := Lib.hid (show Below w.heap.size w w1 by rw [← hw1]; exact ext_alloc w _)
  have S1 := Lib.hid (show w1.heap[w.heap.size]? = some (.cells (jobCs j so sc) 29 (0, 0)) by rw [← hw1]; exact heap_alloc_new _ _)
  have HGj := Lib.hid (fun W => great22_any j hj so sc W)
  have HIj := Lib.hid (jb_info2 j so sc)
  have Hw1 := Lib.hid hw1
  have Hsrc := Lib.hid hsrc
  have Hrd := Lib.hid hrd
  have Hrm := Lib.hid hrm
  have HPp := Lib.hid (fun (p : Option Nat) (R : List RowD) (W : World) (hR : okG R) (hl : R.length ≤ 1000) (ha : ∀ r ∈ R, r.2.length ≤ 1000) (gfp : Nat → Prop) (hg : GraphIs W gfp p R) (hgf : ∀ b, gfp b → b < W.heap.size) (hB : Below w.heap.size w W) (hs : j.src.length ≤ 1000000) => path_any p R gfp W hR hl ha hg hgf j hj so sc id hid hs (Hsrc.out.ext hB))
  clear hw1 hsrc
  obtain ⟨jc, hjc⟩ : ∃ jc, jobCs j so sc = jc := ⟨_, rfl⟩
  rw [hjc] at Hw1 S1 HGj HIj HPp ⊢
  clear hjc
  by_cases c1 : 60 < l.length
  · have d1 : decide ((60 : Int) < (l.length : Int)) = true := by simp; omega
    have d1' : decide (60 < l.length) = true := by simp; omega
    go_enter Tryz.func7, Tryz.ntmps7
    go_upto_region 1 with fail
    rw [Hw1.out]
    go_wp2_with (go_at_call 12; (with_reducible refine (HA.out _).mono ?_); rintro e w9 ⟨rfl, hB⟩; have B9 := Lib.hid (B1.out.trans (hB.mono B1.out.size)); clear hB)
    go_ret
    exact ⟨rfl, B9.out⟩
  have d1 : decide ((60 : Int) < (l.length : Int)) = false := by simp; omega
  have d1' : decide (60 < l.length) = false := by simp; omega
  by_cases c2 : 60 < m.length
  · have d2 : decide ((60 : Int) < (m.length : Int)) = true := by simp; omega
    have d2' : decide (60 < m.length) = true := by simp; omega
    go_enter Tryz.func7, Tryz.ntmps7
    go_upto_region 1 with fail
    rw [Hw1.out]
    go_wp2_with (go_at_call 12; (with_reducible refine (HA.out _).mono ?_); rintro e w9 ⟨rfl, hB⟩; have B9 := Lib.hid (B1.out.trans (hB.mono B1.out.size)); clear hB)
    go_ret
    exact ⟨rfl, B9.out⟩
  have d2 : decide ((60 : Int) < (m.length : Int)) = false := by simp; omega
  have d2' : decide (60 < m.length) = false := by simp; omega
  cases hgj : greatW j with
  | true =>
    rw [hgj] at HGj
    go_enter Tryz.func7, Tryz.ntmps7
    go_upto_region 1 with fail
    rw [Hw1.out]
    go_wp2_with (first
    | (refine wpList_load_rowg rfl _ _ rfl w.heap.size rfl 29 jc (0, 0) _ S1.out Tryz.underlying29 rfl HIj.out ?_)
    | (go_at_call 11; (with_reducible refine (HGj.out _).mono ?_); rintro e w2 ⟨rfl, hB⟩; have B2 := Lib.hid (B1.out.trans (hB.mono B1.out.size)); clear hB)
    | (go_at_call 12; (with_reducible refine (HA.out _).mono ?_); rintro e w9 ⟨rfl, hB⟩; have B9 := Lib.hid (B2.out.trans (hB.mono B2.out.size)); clear hB))
    go_ret
    exact ⟨rfl, B9.out⟩
  | false =>
  rw [hgj] at HGj
  have hg1 := greatW_no hgj
  have hsl : j.src.length ≤ 1000000 := by omega
  have hokL := hrd.okEs
  have hokM := hrm.okEs
  have hlen := ofM_len l
  have HOf := Lib.hid (fun W (h : Below w.heap.size w W) => gof_any l eo ec fp W (by omega) hokL (hrd.ext h))
  have hR : (ofM l).2 = 0 → okG (ofM l).1 := of_fit hokL
  obtain ⟨r, hre⟩ : ∃ r, ofM l = r := ⟨_, rfl⟩
  rw [hre] at HOf hlen hR
  obtain ⟨R, er⟩ := r
  simp only at hR hlen
  by_cases her : er ≠ 0
  · have de : ((er : Int) != 0) = true := by simp; omega
    have de' : (er != 0) = true := by simp; omega
    clear HPp hR
    go_enter Tryz.func7, Tryz.ntmps7
    go_upto_region 1 with fail
    rw [Hw1.out]
    go_wp2_with (first
                | (refine wpList_load_rowg rfl _ _ rfl w.heap.size rfl 29 jc (0, 0) _ S1.out Tryz.underlying29 rfl HIj.out ?_)
                | (go_at_call 11; (with_reducible refine (HGj.out _).mono ?_); rintro e w2 ⟨rfl, hB⟩; have S2 := Lib.hid (heap_keep S1.out hB); have B2 := Lib.hid (B1.out.trans (hB.mono B1.out.size)); clear hB)
                | (go_at_call 14; (with_reducible refine (HOf.out _ B2.out).mono ?_); rintro e w4 ⟨p, rfl, _, _, hG, hB⟩; have S4 := Lib.hid (heap_keep S2.out hB); have B4 := Lib.hid (B2.out.trans (hB.mono B2.out.size)); have G4 := Lib.hid (hG.mono (fp' := fun k => k < w4.heap.size) (fun b h hl => hl)); clear hG hB)
                | (go_at_call 12; (with_reducible refine (HA.out _).mono ?_); rintro e w9 ⟨rfl, hB⟩; have B9 := Lib.hid (B4.out.trans (hB.mono B4.out.size)); clear hB))
    go_ret
    exact ⟨rfl, B9.out⟩
  obtain rfl : er = 0 := Decidable.of_not_not her
  have hRk := Lib.hid (hR rfl)
  have Hof := Lib.hid hre
  clear hR hre her
  obtain ⟨F, hF⟩ : ∃ F, pathW R j id = F := ⟨_, rfl⟩
  have hFl : F.length ≤ 21 := by
    rw [← hF]
    unfold pathW
    split
    · have h1 := (walk_pre R j id j.length [(newJ j id).at_]).2
      rw [List.length_singleton] at h1; omega
    · simp
  have HP1 := Lib.hid (fun p W hg hB => HPp.out p R W hRk.out (by omega) (fun r hr => by have := hlen.1 r hr; omega) _ hg (fun _ h => h) hB hsl)
  rw [hF] at HP1
  have HF := Lib.hid hF
  have HokL := Lib.hid hokL
  have HokM := Lib.hid hokM
  clear hF hokL hokM
  go_enter Tryz.func7, Tryz.ntmps7
  go_upto_region 1 with fail
  rw [Hw1.out]
  go_upto_region 6 with (first
                | (refine wpList_load_rowg rfl _ _ rfl w.heap.size rfl 29 jc (0, 0) _ S1.out Tryz.underlying29 rfl HIj.out ?_)
                | (go_at_call 11; (with_reducible refine (HGj.out _).mono ?_); rintro e w2 ⟨rfl, hB⟩; have S2 := Lib.hid (heap_keep S1.out hB); have B2 := Lib.hid (B1.out.trans (hB.mono B1.out.size)); clear hB)
                | (go_at_call 14; (with_reducible refine (HOf.out _ B2.out).mono ?_); rintro e w4 ⟨p, rfl, _, _, hG, hB⟩; have S4 := Lib.hid (heap_keep S2.out hB); have B4 := Lib.hid (B2.out.trans (hB.mono B2.out.size)); have G4 := Lib.hid (hG.mono (fp' := fun k => k < w4.heap.size) (fun b h hl => hl)); clear hG hB))
  have HPw := Lib.hid (HP1.out p w4 G4.out B4.out)
  obtain ⟨gv, hgv⟩ : ∃ gv, gV p = gv := ⟨_, rfl⟩
  rw [hgv] at HPw ⊢
  clear HP1 hgv
  go_upto_region 7 with (first
      | (refine wpList_load_row rfl _ _ rfl w.heap.size rfl 29 jc (0, 0) _ S4.out Tryz.underlying29 rfl HIj.out ?_)
      | (go_at_call 16; (with_reducible refine HPw.out.mono ?_); rintro e w5 ⟨a5, c5, g5, rfl, ho, _, hB⟩; have P5 := Lib.hid ho.rd; have S5 := Lib.hid (heap_keep S4.out hB); have B5 := Lib.hid (B4.out.trans (hB.mono B4.out.size)); clear ho hB))
  have hE := elemE
  obtain ⟨css0, hall0, hsrc0⟩ := (Hrd.out.ext B5.out).srcAll oneE22 Tryz.underlying22
  have Hall0 := Lib.hid hall0
  have Hsrc0 := Lib.hid (hsrc0 (w5.alloc (.cells #[] 48)) (ext_alloc w5 _) ec)
  clear hall0 hsrc0
  go_upto_region 9 with (at_builtin; refine wpList_app rfl (.tmp 43) (.tmp 44) 22 22 rfl hE (Own.emptyAt w5 48 3 w5.heap.size rfl) rfl rfl Hsrc0.out (by simp [maxLen]; omega) (by omega) ?_; intro ao6 cap6 g6 w6 ho6 hg6 hon6; obtain ⟨hG, hBB⟩ := app_blocksM (w := w5) (W := w5.alloc (.cells #[] 48)) (fun k h => by cases h; exact Nat.le_refl _) (ext_alloc w5 _) hg6 hon6; have HG6 := Lib.hid hG; have HB6 := Lib.hid hBB; have Ho6 := Lib.hid ho6; clear ho6 hg6 hon6 hG hBB)
  go_loopw [12, 13] (fun v12 v13 wr => elI F l m w5 v12 v13 wr) (fun _ v13 _ => m.length - (intOf v13).toNat)
  case atStart =>
    have h0 : elK F l m 0 = l := by simp [elK]
    refine ⟨0, ao6, cap6, g6, Nat.zero_le _, rfl, by rw [h0]; try rw [Nat.zero_add], ⟨css0, ?_, ?_⟩, HG6.out, HB6.out⟩
    · rw [h0]
      have h := Ho6.out
      rw [Nat.zero_add, List.nil_append] at h
      exact h
    · rw [h0]; exact all2_any Hall0.out
  case round =>
    obtain ⟨i, ao, cap, g, hi, rfl, rfl, hS, hg, hB⟩ := hrel
    have hKl := elK_len F l m i
    rename World => wo
    by_cases hlt : i < m.length
    · have di : decide ((i : Int) < (m.length : Int)) = true := by simp; omega
      have di' : decide (i < m.length) = true := by simp; omega
      have hir : (i : Int) < (m.length : Int) := by omega
      obtain ⟨mb, moff, rfl, hmb, q0, q1, q2, y1, y2, y3⟩ := ((Hrm.out.ext B5.out).ext hB).edgeM i hlt
      have Hsu := Lib.hid (elK_succ (F := F) (l := l) hlt)
      obtain ⟨y, hy⟩ : ∃ y, m[i] = y := ⟨_, rfl⟩
      rw [hy] at q0 q1 q2 y1 y2 y3 Hsu
      clear hy
      obtain ⟨f, u, v⟩ := y
      simp only at q0 q1 q2 y1 y2 y3
      have HS := Lib.hid hS
      have Hg := Lib.hid hg
      have HB := Lib.hid hB
      have Q0 := Lib.hid q0
      have Q1 := Lib.hid q1
      have Q2 := Lib.hid q2
      have Hy := Lib.hid (show okE (f, u, v) from ⟨y1, y2, y3⟩)
      clear hS hg hB q0 q1 q2 y1 y2 y3
      go_upto_region 13 with fail
      go_loopw [14, 15] (fun v14 v15 wr => ∃ k : Nat, k ≤ F.length ∧ v15 = .int .i64 (k : Nat) ∧ v14 = .bool (onK F f k) ∧ Below wo.heap.size wo wr) (fun _ v15 _ => F.length - (intOf v15).toNat)
      case atStart => exact ⟨0, Nat.zero_le _, rfl, by simp [onK], Below.refl _ _⟩
      case round =>
        obtain ⟨k, hk, rfl, rfl, hBi⟩ := hrel
        rename World => wi
        have q0 := ((bcell hBi).1 mb (moff + i * 3) hmb).trans Q0.out
        by_cases hkl : k < F.length
        · have dk : decide ((k : Int) < (F.length : Int)) = true := by simp; omega
          have dk' : decide (k < F.length) = true := by simp; omega
          have hkr : (k : Int) < (F.length : Int) := by omega
          obtain ⟨pb, po, rfl, hpb, hc⟩ := ((P5.out.ext HB.out).ext hBi).u32 k hkl
          have Hsk := Lib.hid (onK_succ (f := f) hkl)
          obtain ⟨z, hz⟩ : ∃ z, F[k] = z := ⟨_, rfl⟩
          rw [hz] at hc Hsk
          have HBi := Lib.hid hBi
          clear hz hBi
          cases hon : onK F f k with
          | true =>
            rw [hon] at Hsk
            go_wp2_with fail
            go_quiet (fail)
            go_wp2_with fail
            go_roundw
            case rel => exact ⟨k + 1, by omega, by go_num, by rw [Hsk.out]; rfl, HBi.out.trans ((ext_drewN _ _).mono HBi.out.size)⟩
            case measure => simp [intOf]; omega
          | false =>
            rw [hon] at Hsk
            by_cases e1 : z = f
            · have f1 : ((z : Int) == (f : Int)) = true := by simp; omega
              have f1' : (z == f) = true := by simp; omega
              rw [f1'] at Hsk
              clear e1
              go_wp2_with fail
              go_quiet (fail)
              go_wp2_with fail
              go_roundw
              case rel => exact ⟨k + 1, by omega, by go_num, by rw [Hsk.out]; rfl, HBi.out.trans ((ext_drewN _ _).mono HBi.out.size)⟩
              case measure => simp [intOf]; omega
            · have f1 : ((z : Int) == (f : Int)) = false := by simp; omega
              have f1' : (z == f) = false := by simp; omega
              rw [f1'] at Hsk
              clear e1
              go_wp2_with fail
              go_quiet (fail)
              go_wp2_with fail
              go_roundw
              case rel => exact ⟨k + 1, by omega, by go_num, by rw [Hsk.out]; rfl, HBi.out.trans ((ext_drewN _ _).mono HBi.out.size)⟩
              case measure => simp [intOf]; omega
        · obtain rfl : k = F.length := by omega
          have dk : decide ((F.length : Int) < (F.length : Int)) = false := by simp
          have dk' : decide (F.length < F.length) = false := by simp
          have hoff : offP F (f, u, v) = !(onK F f F.length) := by unfold offP onK; rw [List.take_length]
          rw [hoff] at Hsu
          have q1 := ((bcell hBi).1 mb (moff + i * 3 + 1) hmb).trans Q1.out
          have q2 := ((bcell hBi).1 mb (moff + i * 3 + 2) hmb).trans Q2.out
          have HBi := Lib.hid hBi
          clear hBi hoff
          cases hon : onK F f F.length with
          | true =>
            rw [hon] at Hsu
            simp only [Bool.not_true, Bool.false_eq_true, if_false] at Hsu
            clear q1 q2
            go_wp2_with fail
            go_roundw
            case rel => exact ⟨i + 1, ao, cap, g, by omega, by go_num, by rw [Hsu.out], by rw [Hsu.out]; exact HS.out.ext HBi.out, Hg.out, HB.out.trans (HBi.out.mono HB.out.size)⟩
            case measure => simp [intOf]; omega
          | false =>
            rw [hon] at Hsu
            simp only [Bool.not_false, if_true] at Hsu
            obtain ⟨css, hown, hall⟩ := HS.out.ext HBi.out
            have Hown := Lib.hid hown
            have Hall := Lib.hid hall
            clear hown hall
            obtain ⟨nk, hnk⟩ : ∃ nk, (elK F l m i).length = nk := ⟨_, rfl⟩
            have Hnk := Lib.hid hnk
            rw [hnk] at Hown hKl ⊢
            clear hnk
            go_wp2_with (at_builtin; refine wpList_app rfl (.tmp 73) (.tmp 78) 22 22 rfl hE (Hown.out.alloc _) rfl rfl (srcManyE Tryz.underlying22 wi [.int .u32 (f : Nat), .int .u32 (u : Nat), .int .u32 (v : Nat)] _ _ 3 _ rfl rfl (by simp [Value.oneCell'])) (by simp [maxLen]; omega) (by omega) ?_; intro ao3 cap3 g3 w3 ho3 hg3 hon3; obtain ⟨hG, hBB⟩ := app_blocksM Hg.out ((HB.out.trans (HBi.out.mono HB.out.size)).alloc (HB.out.trans (HBi.out.mono HB.out.size)).size _) hg3 hon3; have HG := Lib.hid hG; have HBB := Lib.hid hBB; have Ho3 := Lib.hid ho3; have HSZ := Lib.hid (Nat.le_trans (ext_alloc wi _).size hon3.size); clear ho3 hg3 hon3 hG hBB)
            go_roundw
            case rel =>
              refine ⟨i + 1, ao3, cap3, g3, by omega, by go_num, by rw [Hsu.out, List.length_append, List.length_singleton, Hnk.out], ?_, HG.out, HBB.out⟩
              rw [Hsu.out]
              exact OwnS.snoc (w := wi) Hall.out (cs := [.int .u32 (f : Nat), .int .u32 (u : Nat), .int .u32 (v : Nat)]) (okEE Hy.out) (by rw [Hnk.out]; exact Ho3.out) (fun b hb => hb.elim) HSZ.out
            case measure => simp [intOf]; omega
    · obtain rfl : i = m.length := by omega
      have di : decide ((m.length : Int) < (m.length : Int)) = false := by simp
      have di' : decide (m.length < m.length) = false := by simp
      have hK : elK F l m m.length = l ++ m.filter (offP F) := by unfold elK; rw [List.take_length]
      obtain ⟨K, hKe⟩ : ∃ K, elK F l m m.length = K := ⟨_, rfl⟩
      rw [hKe] at hS hKl hK ⊢
      have hokK : ∀ x ∈ K, okE x := fun x hx => by
        rw [hK] at hx
        rcases List.mem_append.1 hx with h | h
        · exact HokL.out x h
        · exact HokM.out x (List.mem_filter.1 h).1
      have HOf2 := Lib.hid (gof_any K ao cap _ wo (by omega) hokK hS.rd)
      have hlenK := ofM_len K
      have hR2 : (ofM K).2 = 0 → okG (ofM K).1 := of_fit hokK
      have hpe : (ofM K).2 = 0 → pathW (ofM K).1 j id = F := fun h => by
        have h3 : l ++ m.filter (fun e => !((pathW R j id).any (fun v => v == e.1))) = K := by rw [HF.out, hK]; rfl
        have h4 := path_elsewhere (S := (ofM K).1) HokL.out HokM.out Hof.out (j := j) (id := id) (by rw [h3, ← h])
        rw [h4, HF.out]
      have Br := Lib.hid (B5.out.trans (hB.mono B5.out.size))
      have Sr := Lib.hid (heap_keep S5.out hB)
      have Pr := Lib.hid (P5.out.ext hB)
      obtain ⟨r2, hr2⟩ : ∃ r2, ofM K = r2 := ⟨_, rfl⟩
      rw [hr2] at HOf2 hlenK hR2 hpe
      obtain ⟨R2, er2⟩ := r2
      simp only at hlenK hR2 hpe
      obtain ⟨nk, hnk⟩ : ∃ nk, K.length = nk := ⟨_, rfl⟩
      rw [hnk] at HOf2 hKl hlenK ⊢
      clear hS hg hB hK hKe hokK hr2 hnk hlt
      by_cases her2 : er2 ≠ 0
      · have de : ((er2 : Int) != 0) = true := by simp; omega
        have de' : (er2 != 0) = true := by simp; omega
        clear hR2 hpe
        go_wp2_with (first
          | (go_at_call 14; (with_reducible refine HOf2.out.mono ?_); rintro e w8 ⟨p2, rfl, _, _, _, hB⟩; have B8 := Lib.hid (Br.out.trans (hB.mono Br.out.size)); clear hB)
          | (go_at_call 12; (with_reducible refine (HA.out _).mono ?_); rintro e w9 ⟨rfl, hB⟩; have B9 := Lib.hid (B8.out.trans (hB.mono B8.out.size)); clear hB))
        go_ret
        exact ⟨rfl, B9.out⟩
      obtain rfl : er2 = 0 := Decidable.of_not_not her2
      have hRk2 := Lib.hid (hR2 rfl)
      have hpF := hpe rfl
      have HP2 := Lib.hid (fun p W hg hB => HPp.out p R2 W hRk2.out (by omega) (fun r hr => by have := hlenK.1 r hr; omega) _ hg (fun _ h => h) hB hsl)
      rw [hpF] at HP2
      clear hR2 hpe her2 hpF
      go_upto_region 21 with (first
        | (go_at_call 14; (with_reducible refine HOf2.out.mono ?_); rintro e w8 ⟨p2, rfl, _, _, hG, hB⟩; have G8 := Lib.hid (hG.mono (fp' := fun k => k < w8.heap.size) (fun b h hl => hl)); have S8 := Lib.hid (heap_keep Sr.out hB); have P8 := Lib.hid (Pr.out.ext hB); have B8 := Lib.hid (Br.out.trans (hB.mono Br.out.size)); clear hB hG))
      have HPw2 := Lib.hid (HP2.out p2 w8 G8.out B8.out)
      obtain ⟨gv2, hgv2⟩ : ∃ gv, gV p2 = gv := ⟨_, rfl⟩
      rw [hgv2] at HPw2 ⊢
      clear HP2 hgv2
      go_wp2_with (first
        | (refine wpList_load_row rfl _ _ rfl w.heap.size rfl 29 jc (0, 0) _ S8.out Tryz.underlying29 rfl HIj.out ?_)
        | (go_at_call 16; (with_reducible refine HPw2.out.mono ?_); rintro e w10 ⟨a10, c10, g10, rfl, ho, _, hB⟩; have HSm := Lib.hid (vsame15_any F a10 a5 c10 c5 w10 (by omega) ho.rd (P8.out.ext hB)); have B10 := Lib.hid (B8.out.trans (hB.mono B8.out.size)); clear ho hB)
        | (go_at_call 15; (with_reducible refine HSm.out.mono ?_); rintro e w11 ⟨rfl, qm, rfl⟩; have B11 := Lib.hid (B10.out.trans ((ext_drewN w10 qm).mono B10.out.size)))
        | (go_at_call 12; (with_reducible refine (HA.out _).mono ?_); rintro e w9 ⟨rfl, hB⟩; have B9 := Lib.hid (B11.out.trans (hB.mono B11.out.size)); clear hB))
      go_ret
      exact ⟨rfl, B9.out⟩
end Go.Proofs.YtcklfffeimnfeaaGreat
