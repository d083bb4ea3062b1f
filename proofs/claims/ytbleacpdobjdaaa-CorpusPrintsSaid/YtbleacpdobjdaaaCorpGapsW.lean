/- CorpusGaps: the walk. -/
import Derived.Test.YtbleacpdobjdaaaCorpGapsPlain
namespace Go.Proofs.Ytbleacpdobjdaaa
set_option linter.unusedSimpArgs false
set_option linter.unusedVariables false
open Go.RowKit

/-- the cells of what reads -/
theorem RdS.css {α : Type} {R : Rep α} {fp : Nat → Prop} {w : World} {b : Nat} : ∀ {l : List α} {off : Nat}, RdS R fp w (some ⟨b, off, none⟩) l →
    ∃ css, All2 (fun x cs => R.ok w fp x cs) l css ∧ ∀ j u, css.flatten[j]? = some u → w.cell? ⟨b, off + j, none⟩ = some u
  | [], off, h => ⟨[], .nil, fun j u hu => by simp at hu⟩
  | x :: l, off, h => by
    obtain ⟨b', off', cs, e, _, _, hx, hc⟩ := h.at 0 (by simp)
    cases e
    obtain ⟨css, h1, h2⟩ := RdS.css (l := l) (by simpa using h.drop 1)
    refine ⟨cs :: css, .cons hx h1, fun j u hu => ?_⟩
    rw [List.flatten_cons] at hu
    by_cases hj : j < R.size
    · rw [List.getElem?_append_left (by rw [R.len hx]; exact hj)] at hu
      rw [← hu, ← hc j hj]; simp
    · rw [List.getElem?_append_right (by rw [R.len hx]; omega), R.len hx] at hu
      have := h2 _ _ hu
      rw [show off + R.size + (j - R.size) = off + j by omega] at this
      exact this
theorem slices_one {α : Type} {R : Rep α} {fp : Nat → Prop} {w : World} : ∀ {l : List (List α)} {css : List (List Value)}, All2 (fun x cs => (Rep.slice R).ok w fp x cs) l css → ∀ u ∈ css.flatten, u.oneCell' = true
  | _, _, .nil => fun u hu => by simp at hu
  | _, _, .cons h1 h2 => fun u hu => by
    obtain ⟨a, c, rfl, _⟩ := h1
    rw [List.flatten_cons] at hu
    rcases List.mem_append.1 hu with h | h
    · rw [List.mem_singleton.1 h]; rfl
    · exact slices_one h2 u h
theorem RdS.srcAt {P : Program} {α : Type} {R : Rep α} {fp : Nat → Prop} {w : World} {b off : Nat} {l : List (List α)} {tx e' : TypeId} (h : RdS (Rep.slice R) fp w (some ⟨b, off, none⟩) l) (hk : P.underlying tx = some (.slice e')) :
    ∃ css, All2 (fun x cs => (Rep.slice R).ok w fp x cs) l css ∧ ∀ cap, Src P 1 tx (.slice (some ⟨b, off, none⟩) l.length cap) l.length css.flatten w := by
  obtain ⟨css, h1, h2⟩ := h.css
  refine ⟨css, h1, fun cap => Src.ofSlice w hk ⟨b, off, none⟩ l.length cap css.flatten ?_ (fun j u hu => ?_) (slices_one h1)⟩
  · rw [all2_len h1]; rfl
  · rw [Addr.add_lit]; exact h2 j u hu
theorem okData_of {l : List PathD} {fp : Nat → Prop} {w : World} {ao : Option Addr} (hf : FewP l) (h : RdS pathRep fp w ao l) : ∀ p ∈ l, okData p := fun p hp => by
  have h60 := hf.rows p hp
  obtain ⟨j, hj, rfl⟩ := List.mem_iff_getElem.1 hp
  obtain ⟨b, off, ap, cp, _, _, _, _, hr, hv, _⟩ := h.path j hj
  refine ⟨hv, fun v hvm => ?_, h60⟩
  obtain ⟨i, hi, rfl⟩ := List.mem_iff_getElem.1 hvm
  obtain ⟨_, _, _, _, _, hlt⟩ := hr.cellU32 i hi
  exact hlt
/-- 'string(r[4:8])' -/
theorem conv4 {fp : Nat → Prop} {w : World} {b off : Nat} {r : List UInt8} (hr : r.length = 12) (h : RdS Rep.u8 fp w (some ⟨b, off, none⟩) r) (cap : Nat) :
    (convert 34 9 (.slice (some ⟨b, off + 4, none⟩) 4 cap)).run Try.prog w = .ok (.string (bs (step4 r))) w := by
  have hl : (step4 r).length = 4 := by simp [step4, hr]
  have h2 := (h.drop 4).take 4
  have := run_string_of (P := Try.prog) (src := 34) (dst := 9) (W := step4 r) (w := w) Try.underlying34 Try.underlying5 Try.underlying9 (ao := some ⟨b, off + 4, none⟩) (cap := cap) (.inr ⟨b, off + 4, rfl, fun j u hu => ?_⟩)
  · rw [hl] at this; exact this
  · rcases h2.rdU8.2 with h0 | ⟨b', off', e, _, hc⟩
    · change (step4 r).length = 0 at h0
      omega
    · cases e
      have hj : j < (step4 r).length := by have := (List.getElem?_eq_some_iff.1 hu).1; simpa [byteVals] using this
      rw [← hu]
      exact hc j hj

theorem rec_at {R : List (List UInt8)} {fp : Nat → Prop} {w : World} {ao : Option Addr} (h : RdS (Rep.slice Rep.u8) fp w ao R) (n : Nat) (hn : n < R.length) (h12 : R[n].length = 12) :
    ∃ b off ra ro rc, ao = some ⟨b, off, none⟩ ∧ b < w.heap.size ∧ w.cell? ⟨b, off + n, none⟩ = some (.slice (some ⟨ra, ro, none⟩) 12 rc) ∧ 12 ≤ rc ∧ rc ≤ maxLen ∧
      ∀ cap, (convert 34 9 (.slice (some ⟨ra, ro + 4, none⟩) 4 cap)).run Try.prog w = .ok (.string (bs (step4 R[n]))) w := by
  obtain ⟨b, off, cs, rfl, _, hb, ⟨ra, rc, rfl, hrc1, hrc2, hrr⟩, hcell⟩ := h.at n hn
  have hce := hcell 0 Nat.one_pos
  simp only [Rep.slice, Nat.mul_one, Nat.add_zero, List.getElem?_cons_zero] at hce
  obtain ⟨rb, ro, rfl, _, _⟩ := hrr.rdU8.pos (by omega)
  rw [h12] at hce hrc1
  exact ⟨b, off, rb, ro, rc, rfl, hb, hce, hrc1, hrc2, fun cap => conv4 h12 hrr cap⟩
theorem recs_src {fp : Nat → Prop} {w2 : World} {b off : Nat} {L : List (List UInt8)} (h : RdS (Rep.slice Rep.u8) fp w2 (some ⟨b, off, none⟩) L) (hb : b < w2.heap.size) :
    ∃ css, All2 (fun x cs => (Rep.slice Rep.u8).ok w2 fp x cs) L css ∧ ∀ W', Below w2.heap.size w2 W' → ∀ cap, Src Try.prog 1 48 (.slice (some ⟨b, off, none⟩) L.length cap) L.length css.flatten W' := by
  obtain ⟨css, h1, h2⟩ := h.css
  refine ⟨css, h1, fun W' hB cap => Src.ofSlice W' Try.underlying48 ⟨b, off, none⟩ L.length cap css.flatten ?_ (fun j u hu => ?_) (slices_one h1)⟩
  · rw [all2_len h1]; rfl
  · rw [Addr.add_lit]; exact ((bcell hB).1 b (off + j) hb).trans (h2 j u hu)
theorem gaps_rd {fa fb : Nat → Prop} {w2 w5 : World} {L1 L2 : List (List UInt8)} {css1 css2 : List (List Value)} {ao : Option Addr} {cap n : Nat} {g : Option Nat} (h1 : All2 (fun x cs => (Rep.slice Rep.u8).ok w2 fa x cs) L1 css1) (h2 : All2 (fun x cs => (Rep.slice Rep.u8).ok w2 fb x cs) L2 css2)
    (ho : Own w5 ao cap g 34 1 n (css1.flatten ++ css2.flatten)) (hn : (L1 ++ L2).length = n) (hB : Below w2.heap.size w2 w5) : RdS (Rep.slice Rep.u8) (fun k => k < w5.heap.size) w5 ao (L1 ++ L2) := by
  have k1 := forall2_imp (q := fun x cs => (Rep.slice Rep.u8).ok w5 (fun _ => True) x cs) (fun x cs h => (Rep.slice Rep.u8).mono ((Rep.slice Rep.u8).keep h (fun b _ hl => hB.block b hl) hB.size) (fun _ _ _ => trivial)) h1
  have k2 := forall2_imp (q := fun x cs => (Rep.slice Rep.u8).ok w5 (fun _ => True) x cs) (fun x cs h => (Rep.slice Rep.u8).mono ((Rep.slice Rep.u8).keep h (fun b _ hl => hB.block b hl) hB.size) (fun _ _ _ => trivial)) h2
  have hO : OwnS (Rep.slice Rep.u8) (fun _ => True) w5 ao cap g 34 (L1 ++ L2) := ⟨css1 ++ css2, by rw [hn, List.flatten_append]; exact ho, all2_append k1 k2⟩
  exact hO.rd.mono (fun b _ hl => hl)
theorem pieces_12 (id : Nat) : ∀ (vs : List Nat) (k : Nat), ∀ r ∈ pieces id k vs, r.length = 12
  | [], _, r, h => by simp [pieces] at h
  | v :: vs, k, r, h => by
    rcases List.mem_cons.1 h with rfl | h
    · rfl
    · exact pieces_12 id vs (k + 1) r h
theorem recs_12 (l : List PathD) : ∀ r ∈ recsOf l, r.length = 12 := fun r h => by
  obtain ⟨p, _, hp⟩ := List.mem_flatMap.1 h
  exact pieces_12 _ _ _ r hp

set_option maxRecDepth 100000 in
set_option maxHeartbeats 3200000 in
theorem corpusGaps_walk (l : List PathD) (ao : Option Addr) (cap : Nat) (out : Int) (w : World) (ho1 : -9223372036854775808 ≤ out) (ho2 : out ≤ 9223372036854775807) (hrd : RdS pathRep (fun b => b < w.heap.size) w ao l) :
    Calls Try.prog 12 #[.slice ao l.length cap, .int .i64 out] w fun e w' => e = .returned (.bool true) ∧ Below w.heap.size w w' := by
  by_cases hf : FewP l
  · have hFew : Calls Try.prog 34 #[.slice ao l.length cap] w fun e w' => e = .returned (.bool true) ∧ w = w' := by rw [← fewB_yes hf]; exact few_any l ao cap _ w hrd
    have HFew := Lib.hid hFew
    have hl := hf.1
    have Hf := Lib.hid hf
    clear hFew hf
    by_cases hm : MayP l
    · have hMay : Calls Try.prog 35 #[.slice ao l.length cap] w fun e w' => e = .returned (.bool true) ∧ ∃ m, w' = w.drewN m := by rw [← mayB_yes hm]; exact may_any l ao cap _ w (by omega) hrd
      have HMay := Lib.hid hMay
      have hok := okData_of Hf.out hrd
      have hRc := fun (W : World) (hB : Below w.heap.size w W) => recs_any l ao cap W Hf.out ((hrd.ext hB).mono (fun b hb _ => Nat.lt_of_lt_of_le hb hB.size))
      have hgp := gaps_plain l hok hm
      have hRl := recsOf_len l Hf.out.rows
      have h12 := recs_12 l
      generalize recsOf l = R at hRc hgp hRl h12
      have HRc := Lib.hid hRc
      have Hgp := Lib.hid hgp
      have H12 := Lib.hid h12
      clear hMay hok hRc hgp h12 hrd hm
      by_cases hneg : out < 0
      · have hd1 : decide (out < 0) = true := by simpa using hneg
        go_enter Try.func12, Try.ntmps12
        go_wp2_with (first
          | (go_at_call 34; refine HFew.out.mono ?_; rintro e w1 ⟨rfl, rfl⟩)
          | (go_at_call 35; refine HMay.out.mono ?_; rintro e w1 ⟨rfl, m, rfl⟩)
          | (go_at_call 36; refine (HRc.out _ (ext_drewN w _)).mono ?_; rintro e w2 ⟨a2, c2, rfl, h1, h2, hr2, hB2⟩; have HB2 := Lib.hid hB2; clear hB2 hr2)
          | (go_at_call 27; refine (awake28_any _).mono ?_; rintro e w4 ⟨rfl, hB4⟩))
        go_ret
        exact ⟨rfl, ext_trans (ext_trans (ext_drewN w m) HB2.out) hB4⟩
      · have hd1 : decide (out < 0) = false := by simpa using hneg
        obtain ⟨n, rfl⟩ : ∃ n : Nat, out = n := ⟨out.toNat, by omega⟩
        by_cases hbig : R.length ≤ n
        · have hd2 : decide ((R.length : Int) ≤ (n : Int)) = true := by simp; omega
          go_enter Try.func12, Try.ntmps12
          go_wp2_with (first
            | (go_at_call 34; refine HFew.out.mono ?_; rintro e w1 ⟨rfl, rfl⟩)
            | (go_at_call 35; refine HMay.out.mono ?_; rintro e w1 ⟨rfl, m, rfl⟩)
            | (go_at_call 36; refine (HRc.out _ (ext_drewN w _)).mono ?_; rintro e w2 ⟨a2, c2, rfl, h1, h2, hr2, hB2⟩; have HB2 := Lib.hid hB2; clear hB2 hr2)
            | (go_at_call 27; refine (awake28_any _).mono ?_; rintro e w4 ⟨rfl, hB4⟩))
          go_ret
          exact ⟨rfl, ext_trans (ext_trans (ext_drewN w m) HB2.out) hB4⟩
        · have hd2 : decide ((R.length : Int) ≤ (n : Int)) = false := by simp; omega
          have hn : n < R.length := by omega
          obtain ⟨f, s, hf, hs1, hs2, M, E, hp, hcase⟩ := Hgp.out n hn
          have hPt : ∀ ao cap W, RdS (Rep.slice Rep.u8) (fun k => k < W.heap.size) W ao (R.take n ++ R.drop (n + 1)) → Calls Try.prog 28 #[.slice ao (n + (R.length - (n + 1))) cap] W (PathsRet (M, E) W) := fun ao cap W h => by
            have hlen : (R.take n ++ R.drop (n + 1)).length = n + (R.length - (n + 1)) := by rw [List.length_append, List.length_take, List.length_drop]; omega
            have := paths_any _ ao cap W (by rw [hlen]; omega) h
            rw [hp, hlen] at this
            exact this
          have HPt := Lib.hid hPt
          have hE := recElem
          clear hp hPt
          have hfb : (step4 R[n] == [0, 0, 0, 0]) = f := by
            cases f
            · exact beq_eq_false_iff_ne.2 (fun h => by have := hf.1 h; cases this)
            · exact beq_iff_eq.2 (hf.2 rfl)
          clear hf
          have hcase2 : (s = true ∧ f = false ∧ E = 0 ∧ M.length = l.length) ∨ (s = true ∧ f = true ∧ E = 0 ∧ M.length + 1 = l.length) ∨ (s = false ∧ E = 13 ∧ M = [] ∧ ∃ f', f = f') := by
            rcases hcase with h | h | h
            · exact .inl h
            · exact .inr (.inl h)
            · exact .inr (.inr ⟨h.1, h.2.1, h.2.2, f, rfl⟩)
          clear hcase
          by_cases hlast : n + 1 = R.length
          · have hd3 : ((n : Int) == (R.length : Int) - 1) = true := by simp; omega
            have hst := hs1 hlast
            subst hst
            have Hlast := Lib.hid hlast
            clear hs1 hs2 hlast
            go_enter Try.func12, Try.ntmps12
            go_wp2_with (first
              | (go_at_call 34; refine HFew.out.mono ?_; rintro e w1 ⟨rfl, rfl⟩)
              | (go_at_call 35; refine HMay.out.mono ?_; rintro e w1 ⟨rfl, m, rfl⟩)
              | (go_at_call 36; refine (HRc.out _ (ext_drewN w _)).mono ?_; rintro e w2 ⟨a2, c2, rfl, h1, h2, hr2, hB2⟩; obtain ⟨b2, o2, ra, ro, rc, rfl, hb2, hce, hrc1, hrc2, hcv⟩ := rec_at hr2 n hn (H12.out R[n] (List.getElem_mem hn)); have Hr2 := Lib.hid hr2; have HB2 := Lib.hid hB2; have hrc3 : ¬ rc = 4 := (by omega); have hrc4 : (4 : Int) ≤ rc := (by omega); have hrc5 : (8 : Int) ≤ rc := (by omega); clear hB2 hr2))
            have hs2 := HB2.out.size
            have hB2z : w.heap.size ≤ w2.heap.size := by simpa using hs2
            have hcn : (n : Int) ≤ (c2 : Int) := by omega
            have hcn1 : (n : Int) + 1 ≤ (c2 : Int) := by omega
            have hnR : (n : Int) + 1 ≤ (R.length : Int) := by omega
            have hn0 : (0 : Int) ≤ (n : Int) + 1 := by omega
            have hnt : ((n : Int) + 1).toNat = n + 1 := by omega
            have hnw : IntKind.i64.wrap ((n : Int) + 1) = (n : Int) + 1 := IntWalk.i64_in _ (by omega)
            obtain ⟨css1, hall1, hsrc1⟩ := recs_src (Hr2.out.take n) hb2
            rw [List.length_take, Nat.min_eq_left (by omega)] at hsrc1
            have Hsrc1 := Lib.hid hsrc1
            have Hall1 := Lib.hid hall1
            clear hsrc1 hall1 hce hcv
            by_cases hcc : c2 = n + 1
            · have hRn : R.length = n + 1 := by omega
              have hd0 : R.drop (n + 1) = [] := List.drop_eq_nil_of_le (by omega)
              obtain ⟨css2, hall2, hsrc2⟩ := recs_src (RdS.nil (Rep.slice Rep.u8) (fun _ => True) w2 (some ⟨b2, o2, none⟩)) hb2
              rw [← hd0] at hall2
              have e2 : R.length - (n + 1) = 0 := by omega
              simp only [List.length_nil, ← e2] at hsrc2
              have Hsrc2 := Lib.hid hsrc2
              have Hall2 := Lib.hid hall2
              have HRn := Lib.hid hRn
              clear hsrc2 hall2 hd0 e2 hRn hbig h1
              subst hcc
              have hc3 : (n : Int) ≤ (n : Int) + 1 := by omega
              go_region_held3 (fun w' => True) (trivial)
                (first
                  | (refine step_app rfl (.tmp 53) (.tmp 56) 48 48 rfl hE (Own.emptyAt w2.drew 34 1 w2.heap.size (by simp)) rfl rfl (Hsrc1.out _ ((ext_drew w2).alloc (by simp) _) _) (by simp [maxLen]; omega) (by omega) ?_; intro ao4 cap4 g4 w4 ho4 hg4 hon4; have hB4 : Below w2.heap.size w2 w4 := (((ext_drew w2).alloc (by simp) _).trans (hon4.below (by simp) (fun k hk e => by cases e; omega))); have Ho4 := Lib.hid ho4; have Hg4 := Lib.hid hg4; have HB4 := Lib.hid hB4; clear ho4 hg4 hon4 hB4)
                  | (refine step_app rfl (.tmp 57) (.tmp 61) 48 48 rfl hE Ho4.out rfl rfl (Hsrc2.out _ HB4.out _) (by simp [maxLen]; omega) (by omega) ?_; intro ao5 cap5 g5 w5 ho5 hg5 hon5; have Ho5 := Lib.hid ho5; have Hon5 := Lib.hid hon5; clear ho5 hg5 hon5))
              have hB5 : Below w2.heap.size w2 w5 := HB4.out.trans (Hon5.out.below HB4.out.size (fun k hk e => by rcases Hg4.out with h | h <;> rw [h] at e <;> cases e <;> simp at hk <;> omega))
              have ho5 := Ho5.out
              rw [Nat.zero_add, List.nil_append] at ho5
              have Hin := Lib.hid (gaps_rd Hall1.out Hall2.out ho5 (by rw [List.length_append, List.length_take, List.length_drop]; have := HRn.out; omega) hB5)
              have HB5 := Lib.hid hB5
              clear ho5 hB5 hnw hnt hn0 hnR hcn1 hcn hc3
              rcases hcase2 with ⟨hs', hf', rfl, hM⟩ | ⟨hs', hf', rfl, hM⟩ | ⟨hs', rfl, rfl, f', hf'⟩
              case inl =>
                have hm1 : ((M.length : Int) == (l.length : Int)) = true := by simp [hM]
                clear hM
                try subst hs'
                try subst hf'
                go_wp2_with (first
                  | (go_at_call 28; refine (HPt.out _ _ _ Hin.out).mono ?_; rintro e w6 ⟨a6, c6, rfl, h6, h7, hr6, hB6⟩; have HB6 := Lib.hid hB6; clear hr6 hB6 h6 h7)
                  | (go_at_call 27; refine (awake28_any _).mono ?_; rintro e w7 ⟨rfl, hB7⟩))
                go_ret
                exact ⟨rfl, ext_trans (ext_trans (ext_trans (ext_trans (ext_drewN w m) HB2.out) HB5.out) HB6.out) hB7⟩
              case inr.inl =>
                have hm1 : ((M.length : Int) == (l.length : Int) - 1) = true := by simp; omega
                clear hM
                try subst hs'
                try subst hf'
                go_wp2_with (first
                  | (go_at_call 28; refine (HPt.out _ _ _ Hin.out).mono ?_; rintro e w6 ⟨a6, c6, rfl, h6, h7, hr6, hB6⟩; have HB6 := Lib.hid hB6; clear hr6 hB6 h6 h7)
                  | (go_at_call 27; refine (awake28_any _).mono ?_; rintro e w7 ⟨rfl, hB7⟩))
                go_ret
                exact ⟨rfl, ext_trans (ext_trans (ext_trans (ext_trans (ext_drewN w m) HB2.out) HB5.out) HB6.out) hB7⟩
              case inr.inr =>
                first
                  | exact absurd hs' (by decide)
                  | skip
                all_goals
                  subst hs'
                  clear hf' f'
                  go_wp2_with (first
                    | (go_at_call 28; refine (HPt.out _ _ _ Hin.out).mono ?_; rintro e w6 ⟨a6, c6, rfl, h6, h7, hr6, hB6⟩; have HB6 := Lib.hid hB6; clear hr6 hB6 h6 h7)
                    | (go_at_call 27; refine (awake28_any _).mono ?_; rintro e w7 ⟨rfl, hB7⟩))
                  go_ret
                  exact ⟨rfl, ext_trans (ext_trans (ext_trans (ext_trans (ext_drewN w m) HB2.out) HB5.out) HB6.out) hB7⟩
            · obtain ⟨css2, hall2, hsrc2⟩ := recs_src (Hr2.out.drop (n + 1)) hb2
              simp only [List.length_drop, Rep.slice, Nat.mul_one] at hsrc2
              have Hsrc2 := Lib.hid hsrc2
              have Hall2 := Lib.hid hall2
              clear hsrc2 hall2
              go_region_held3 (fun w' => True) (trivial)
                (first
                  | (refine step_app rfl (.tmp 53) (.tmp 56) 48 48 rfl hE (Own.emptyAt w2.drew 34 1 w2.heap.size (by simp)) rfl rfl (Hsrc1.out _ ((ext_drew w2).alloc (by simp) _) _) (by simp [maxLen]; omega) (by omega) ?_; intro ao4 cap4 g4 w4 ho4 hg4 hon4; have hB4 : Below w2.heap.size w2 w4 := (((ext_drew w2).alloc (by simp) _).trans (hon4.below (by simp) (fun k hk e => by cases e; omega))); have Ho4 := Lib.hid ho4; have Hg4 := Lib.hid hg4; have HB4 := Lib.hid hB4; clear ho4 hg4 hon4 hB4)
                  | (refine step_app rfl (.tmp 57) (.tmp 61) 48 48 rfl hE Ho4.out rfl rfl (Hsrc2.out _ HB4.out _) (by simp [maxLen]; omega) (by omega) ?_; intro ao5 cap5 g5 w5 ho5 hg5 hon5; have Ho5 := Lib.hid ho5; have Hon5 := Lib.hid hon5; clear ho5 hg5 hon5))
              have hB5 : Below w2.heap.size w2 w5 := HB4.out.trans (Hon5.out.below HB4.out.size (fun k hk e => by rcases Hg4.out with h | h <;> rw [h] at e <;> cases e <;> simp at hk <;> omega))
              have ho5 := Ho5.out
              rw [Nat.zero_add, List.nil_append] at ho5
              have Hin := Lib.hid (gaps_rd Hall1.out Hall2.out ho5 (by rw [List.length_append, List.length_take, List.length_drop]; omega) hB5)
              have HB5 := Lib.hid hB5
              clear ho5 hB5 hnw hnt hn0 hnR hcn1 hcn
              rcases hcase2 with ⟨hs', hf', rfl, hM⟩ | ⟨hs', hf', rfl, hM⟩ | ⟨hs', rfl, rfl, f', hf'⟩
              case inl =>
                have hm1 : ((M.length : Int) == (l.length : Int)) = true := by simp [hM]
                clear hM
                try subst hs'
                try subst hf'
                go_wp2_with (first
                  | (go_at_call 28; refine (HPt.out _ _ _ Hin.out).mono ?_; rintro e w6 ⟨a6, c6, rfl, h6, h7, hr6, hB6⟩; have HB6 := Lib.hid hB6; clear hr6 hB6 h6 h7)
                  | (go_at_call 27; refine (awake28_any _).mono ?_; rintro e w7 ⟨rfl, hB7⟩))
                go_ret
                exact ⟨rfl, ext_trans (ext_trans (ext_trans (ext_trans (ext_drewN w m) HB2.out) HB5.out) HB6.out) hB7⟩
              case inr.inl =>
                have hm1 : ((M.length : Int) == (l.length : Int) - 1) = true := by simp; omega
                clear hM
                try subst hs'
                try subst hf'
                go_wp2_with (first
                  | (go_at_call 28; refine (HPt.out _ _ _ Hin.out).mono ?_; rintro e w6 ⟨a6, c6, rfl, h6, h7, hr6, hB6⟩; have HB6 := Lib.hid hB6; clear hr6 hB6 h6 h7)
                  | (go_at_call 27; refine (awake28_any _).mono ?_; rintro e w7 ⟨rfl, hB7⟩))
                go_ret
                exact ⟨rfl, ext_trans (ext_trans (ext_trans (ext_trans (ext_drewN w m) HB2.out) HB5.out) HB6.out) hB7⟩
              case inr.inr =>
                first
                  | exact absurd hs' (by decide)
                  | skip
                all_goals
                  subst hs'
                  clear hf' f'
                  go_wp2_with (first
                    | (go_at_call 28; refine (HPt.out _ _ _ Hin.out).mono ?_; rintro e w6 ⟨a6, c6, rfl, h6, h7, hr6, hB6⟩; have HB6 := Lib.hid hB6; clear hr6 hB6 h6 h7)
                    | (go_at_call 27; refine (awake28_any _).mono ?_; rintro e w7 ⟨rfl, hB7⟩))
                  go_ret
                  exact ⟨rfl, ext_trans (ext_trans (ext_trans (ext_trans (ext_drewN w m) HB2.out) HB5.out) HB6.out) hB7⟩
          · have hd3 : ((n : Int) == (R.length : Int) - 1) = false := by simp; omega
            have hn1 : n + 1 < R.length := by omega
            have hsb : (step4 R[n + 1] == [0, 0, 0, 0]) = s := by
              cases s
              · exact beq_eq_false_iff_ne.2 (fun h => by have := (hs2 hn1).1 h; cases this)
              · exact beq_iff_eq.2 ((hs2 hn1).2 rfl)
            have hir : (n : Int) + 1 < (R.length : Int) := by omega
            have hir0 : (n : Int) < (R.length : Int) := by omega
            clear hs1 hs2
            go_enter Try.func12, Try.ntmps12
            go_wp2_with (first
              | (go_at_call 34; refine HFew.out.mono ?_; rintro e w1 ⟨rfl, rfl⟩)
              | (go_at_call 35; refine HMay.out.mono ?_; rintro e w1 ⟨rfl, m, rfl⟩)
              | (go_at_call 36; refine (HRc.out _ (ext_drewN w _)).mono ?_; rintro e w2 ⟨a2, c2, rfl, h1, h2, hr2, hB2⟩; obtain ⟨b2, o2, ra, ro, rc, rfl, hb2, hce, hrc1, hrc2, hcv⟩ := rec_at hr2 n hn (H12.out R[n] (List.getElem_mem hn)); obtain ⟨b3, o3, ra3, ro3, rc3, e3, hb3, hce3, hrc13, hrc23, hcv3⟩ := rec_at hr2 (n + 1) hn1 (H12.out R[n + 1] (List.getElem_mem hn1)); cases e3; have Hr2 := Lib.hid hr2; have HB2 := Lib.hid hB2; have hrc3 : ¬ rc = 4 := (by omega); have hrc4 : (4 : Int) ≤ rc := (by omega); have hrc5 : (8 : Int) ≤ rc := (by omega); have hrc33 : ¬ rc3 = 4 := (by omega); have hrc43 : (4 : Int) ≤ rc3 := (by omega); have hrc53 : (8 : Int) ≤ rc3 := (by omega); clear hB2 hr2))
            have hs2 := HB2.out.size
            have hB2z : w.heap.size ≤ w2.heap.size := by simpa using hs2
            have hcn : (n : Int) ≤ (c2 : Int) := by omega
            have hcn1 : (n : Int) + 1 ≤ (c2 : Int) := by omega
            have hnR : (n : Int) + 1 ≤ (R.length : Int) := by omega
            have hn0 : (0 : Int) ≤ (n : Int) + 1 := by omega
            have hnt : ((n : Int) + 1).toNat = n + 1 := by omega
            have hnw : IntKind.i64.wrap ((n : Int) + 1) = (n : Int) + 1 := IntWalk.i64_in _ (by omega)
            obtain ⟨css1, hall1, hsrc1⟩ := recs_src (Hr2.out.take n) hb2
            rw [List.length_take, Nat.min_eq_left (by omega)] at hsrc1
            have Hsrc1 := Lib.hid hsrc1
            have Hall1 := Lib.hid hall1
            clear hsrc1 hall1 hce hcv
            by_cases hcc : c2 = n + 1
            · have hRn : R.length = n + 1 := by omega
              have hd0 : R.drop (n + 1) = [] := List.drop_eq_nil_of_le (by omega)
              obtain ⟨css2, hall2, hsrc2⟩ := recs_src (RdS.nil (Rep.slice Rep.u8) (fun _ => True) w2 (some ⟨b2, o2, none⟩)) hb2
              rw [← hd0] at hall2
              have e2 : R.length - (n + 1) = 0 := by omega
              simp only [List.length_nil, ← e2] at hsrc2
              have Hsrc2 := Lib.hid hsrc2
              have Hall2 := Lib.hid hall2
              have HRn := Lib.hid hRn
              clear hsrc2 hall2 hd0 e2 hRn hbig h1
              subst hcc
              have hc3 : (n : Int) ≤ (n : Int) + 1 := by omega
              go_region_held3 (fun w' => True) (trivial)
                (first
                  | (refine step_app rfl (.tmp 53) (.tmp 56) 48 48 rfl hE (Own.emptyAt w2.drew 34 1 w2.heap.size (by simp)) rfl rfl (Hsrc1.out _ ((ext_drew w2).alloc (by simp) _) _) (by simp [maxLen]; omega) (by omega) ?_; intro ao4 cap4 g4 w4 ho4 hg4 hon4; have hB4 : Below w2.heap.size w2 w4 := (((ext_drew w2).alloc (by simp) _).trans (hon4.below (by simp) (fun k hk e => by cases e; omega))); have Ho4 := Lib.hid ho4; have Hg4 := Lib.hid hg4; have HB4 := Lib.hid hB4; clear ho4 hg4 hon4 hB4)
                  | (refine step_app rfl (.tmp 57) (.tmp 61) 48 48 rfl hE Ho4.out rfl rfl (Hsrc2.out _ HB4.out _) (by simp [maxLen]; omega) (by omega) ?_; intro ao5 cap5 g5 w5 ho5 hg5 hon5; have Ho5 := Lib.hid ho5; have Hon5 := Lib.hid hon5; clear ho5 hg5 hon5))
              have hB5 : Below w2.heap.size w2 w5 := HB4.out.trans (Hon5.out.below HB4.out.size (fun k hk e => by rcases Hg4.out with h | h <;> rw [h] at e <;> cases e <;> simp at hk <;> omega))
              have ho5 := Ho5.out
              rw [Nat.zero_add, List.nil_append] at ho5
              have Hin := Lib.hid (gaps_rd Hall1.out Hall2.out ho5 (by rw [List.length_append, List.length_take, List.length_drop]; have := HRn.out; omega) hB5)
              have HB5 := Lib.hid hB5
              clear ho5 hB5 hnw hnt hn0 hnR hcn1 hcn hc3
              rcases hcase2 with ⟨hs', hf', rfl, hM⟩ | ⟨hs', hf', rfl, hM⟩ | ⟨hs', rfl, rfl, f', hf'⟩
              case inl =>
                have hm1 : ((M.length : Int) == (l.length : Int)) = true := by simp [hM]
                clear hM
                try subst hs'
                try subst hf'
                go_wp2_with (first
                  | (go_at_call 28; refine (HPt.out _ _ _ Hin.out).mono ?_; rintro e w6 ⟨a6, c6, rfl, h6, h7, hr6, hB6⟩; have HB6 := Lib.hid hB6; clear hr6 hB6 h6 h7)
                  | (go_at_call 27; refine (awake28_any _).mono ?_; rintro e w7 ⟨rfl, hB7⟩))
                go_ret
                exact ⟨rfl, ext_trans (ext_trans (ext_trans (ext_trans (ext_drewN w m) HB2.out) HB5.out) HB6.out) hB7⟩
              case inr.inl =>
                have hm1 : ((M.length : Int) == (l.length : Int) - 1) = true := by simp; omega
                clear hM
                try subst hs'
                try subst hf'
                go_wp2_with (first
                  | (go_at_call 28; refine (HPt.out _ _ _ Hin.out).mono ?_; rintro e w6 ⟨a6, c6, rfl, h6, h7, hr6, hB6⟩; have HB6 := Lib.hid hB6; clear hr6 hB6 h6 h7)
                  | (go_at_call 27; refine (awake28_any _).mono ?_; rintro e w7 ⟨rfl, hB7⟩))
                go_ret
                exact ⟨rfl, ext_trans (ext_trans (ext_trans (ext_trans (ext_drewN w m) HB2.out) HB5.out) HB6.out) hB7⟩
              case inr.inr =>
                first
                  | exact absurd hs' (by decide)
                  | skip
                all_goals
                  subst hs'
                  clear hf' f'
                  go_wp2_with (first
                    | (go_at_call 28; refine (HPt.out _ _ _ Hin.out).mono ?_; rintro e w6 ⟨a6, c6, rfl, h6, h7, hr6, hB6⟩; have HB6 := Lib.hid hB6; clear hr6 hB6 h6 h7)
                    | (go_at_call 27; refine (awake28_any _).mono ?_; rintro e w7 ⟨rfl, hB7⟩))
                  go_ret
                  exact ⟨rfl, ext_trans (ext_trans (ext_trans (ext_trans (ext_drewN w m) HB2.out) HB5.out) HB6.out) hB7⟩
            · obtain ⟨css2, hall2, hsrc2⟩ := recs_src (Hr2.out.drop (n + 1)) hb2
              simp only [List.length_drop, Rep.slice, Nat.mul_one] at hsrc2
              have Hsrc2 := Lib.hid hsrc2
              have Hall2 := Lib.hid hall2
              clear hsrc2 hall2
              go_region_held3 (fun w' => True) (trivial)
                (first
                  | (refine step_app rfl (.tmp 53) (.tmp 56) 48 48 rfl hE (Own.emptyAt w2.drew 34 1 w2.heap.size (by simp)) rfl rfl (Hsrc1.out _ ((ext_drew w2).alloc (by simp) _) _) (by simp [maxLen]; omega) (by omega) ?_; intro ao4 cap4 g4 w4 ho4 hg4 hon4; have hB4 : Below w2.heap.size w2 w4 := (((ext_drew w2).alloc (by simp) _).trans (hon4.below (by simp) (fun k hk e => by cases e; omega))); have Ho4 := Lib.hid ho4; have Hg4 := Lib.hid hg4; have HB4 := Lib.hid hB4; clear ho4 hg4 hon4 hB4)
                  | (refine step_app rfl (.tmp 57) (.tmp 61) 48 48 rfl hE Ho4.out rfl rfl (Hsrc2.out _ HB4.out _) (by simp [maxLen]; omega) (by omega) ?_; intro ao5 cap5 g5 w5 ho5 hg5 hon5; have Ho5 := Lib.hid ho5; have Hon5 := Lib.hid hon5; clear ho5 hg5 hon5))
              have hB5 : Below w2.heap.size w2 w5 := HB4.out.trans (Hon5.out.below HB4.out.size (fun k hk e => by rcases Hg4.out with h | h <;> rw [h] at e <;> cases e <;> simp at hk <;> omega))
              have ho5 := Ho5.out
              rw [Nat.zero_add, List.nil_append] at ho5
              have Hin := Lib.hid (gaps_rd Hall1.out Hall2.out ho5 (by rw [List.length_append, List.length_take, List.length_drop]; omega) hB5)
              have HB5 := Lib.hid hB5
              clear ho5 hB5 hnw hnt hn0 hnR hcn1 hcn
              rcases hcase2 with ⟨hs', hf', rfl, hM⟩ | ⟨hs', hf', rfl, hM⟩ | ⟨hs', rfl, rfl, f', hf'⟩
              case inl =>
                have hm1 : ((M.length : Int) == (l.length : Int)) = true := by simp [hM]
                clear hM
                try subst hs'
                try subst hf'
                go_wp2_with (first
                  | (go_at_call 28; refine (HPt.out _ _ _ Hin.out).mono ?_; rintro e w6 ⟨a6, c6, rfl, h6, h7, hr6, hB6⟩; have HB6 := Lib.hid hB6; clear hr6 hB6 h6 h7)
                  | (go_at_call 27; refine (awake28_any _).mono ?_; rintro e w7 ⟨rfl, hB7⟩))
                go_ret
                exact ⟨rfl, ext_trans (ext_trans (ext_trans (ext_trans (ext_drewN w m) HB2.out) HB5.out) HB6.out) hB7⟩
              case inr.inl =>
                have hm1 : ((M.length : Int) == (l.length : Int) - 1) = true := by simp; omega
                clear hM
                try subst hs'
                try subst hf'
                go_wp2_with (first
                  | (go_at_call 28; refine (HPt.out _ _ _ Hin.out).mono ?_; rintro e w6 ⟨a6, c6, rfl, h6, h7, hr6, hB6⟩; have HB6 := Lib.hid hB6; clear hr6 hB6 h6 h7)
                  | (go_at_call 27; refine (awake28_any _).mono ?_; rintro e w7 ⟨rfl, hB7⟩))
                go_ret
                exact ⟨rfl, ext_trans (ext_trans (ext_trans (ext_trans (ext_drewN w m) HB2.out) HB5.out) HB6.out) hB7⟩
              case inr.inr =>
                first
                  | exact absurd hs' (by decide)
                  | skip
                all_goals
                  subst hs'
                  clear hf' f'
                  go_wp2_with (first
                    | (go_at_call 28; refine (HPt.out _ _ _ Hin.out).mono ?_; rintro e w6 ⟨a6, c6, rfl, h6, h7, hr6, hB6⟩; have HB6 := Lib.hid hB6; clear hr6 hB6 h6 h7)
                    | (go_at_call 27; refine (awake28_any _).mono ?_; rintro e w7 ⟨rfl, hB7⟩))
                  go_ret
                  exact ⟨rfl, ext_trans (ext_trans (ext_trans (ext_trans (ext_drewN w m) HB2.out) HB5.out) HB6.out) hB7⟩
    · have hMay : Calls Try.prog 35 #[.slice ao l.length cap] w fun e w' => e = .returned (.bool false) ∧ ∃ m, w' = w.drewN m := by rw [← mayB_no hm]; exact may_any l ao cap _ w (by omega) hrd
      have HMay := Lib.hid hMay
      clear hMay hrd hm
      go_enter Try.func12, Try.ntmps12
      go_wp2_with (first
        | (go_at_call 34; refine HFew.out.mono ?_; rintro e w1 ⟨rfl, rfl⟩)
        | (go_at_call 35; refine HMay.out.mono ?_; rintro e w1 ⟨rfl, m, rfl⟩)
        | (go_at_call 27; refine (awake28_any _).mono ?_; rintro e w4 ⟨rfl, hB4⟩))
      go_ret
      exact ⟨rfl, ext_trans (ext_drewN w m) hB4⟩
  · have hFew : Calls Try.prog 34 #[.slice ao l.length cap] w fun e w' => e = .returned (.bool false) ∧ w = w' := by rw [← fewB_no hf]; exact few_any l ao cap _ w hrd
    have HFew := Lib.hid hFew
    clear hFew hf hrd
    go_enter Try.func12, Try.ntmps12
    go_wp2_with (first
      | (go_at_call 34; refine HFew.out.mono ?_; rintro e w1 ⟨rfl, rfl⟩)
      | (go_at_call 27; refine (awake28_any _).mono ?_; rintro e w4 ⟨rfl, hB4⟩))
    go_ret
    exact ⟨rfl, hB4⟩
end Go.Proofs.Ytbleacpdobjdaaa
