/- palmerlaw14.MergeSplits: the walk. -/
import Derived.Test.YtafbjkbdfdeacaaMergeSplitPlain
namespace Go.Proofs.Ytafbjkbdfdeacaa
set_option linter.unusedSimpArgs false
set_option linter.unusedVariables false
open Go.RowKit

theorem all2_split {α β : Type} {p : α → β → Prop} : ∀ {l m : List α} {c : List β}, All2 p (l ++ m) c → ∃ c1 c2, c = c1 ++ c2 ∧ All2 p l c1 ∧ All2 p m c2
  | [], m, c, h => ⟨[], c, rfl, .nil, h⟩
  | x :: l, m, _, .cons h1 h2 => by
    obtain ⟨c1, c2, rfl, h3, h4⟩ := all2_split h2
    exact ⟨_ :: c1, c2, rfl, .cons h1 h3, h4⟩
theorem OwnS.edgeSet {w : World} {b cap : Nat} {e : TypeId} {A B : List EdgeD} {f t y z : Nat} (h : OwnS edgeRep (fun _ => False) w (some ⟨b, 0, none⟩) cap (some b) e (A ++ [(f, t, y)] ++ B)) (hz : z < 4294967296) :
    OwnS edgeRep (fun _ => False) (w.setCell ⟨b, A.length * 3 + 2, none⟩ (.int .u32 (z : Nat))) (some ⟨b, 0, none⟩) cap (some b) e (A ++ [(f, t, z)] ++ B) := by
  obtain ⟨css, ho, ha⟩ := h
  obtain ⟨c12, c3, rfl, h12, h3⟩ := all2_split ha
  obtain ⟨c1, cs, rfl, h1, h2⟩ := all2_snoc h12
  obtain ⟨c, d, rfl, ⟨rfl, hf⟩, c4, d4, rfl, ⟨rfl, ht⟩, ⟨rfl, hy⟩⟩ := h2
  have hl1 : c1.flatten.length = A.length * 3 := all2_len h1
  have keep : ∀ {l : List EdgeD} {css : List (List Value)}, All2 (fun x cs => edgeRep.ok w (fun _ => False) x cs) l css → All2 (fun x cs => edgeRep.ok (w.setCell ⟨b, A.length * 3 + 2, none⟩ (.int .u32 (z : Nat))) (fun _ => False) x cs) l css :=
    fun h => forall2_imp (fun x ds h => edgeRep.keep h (fun _ hb => hb.elim) (by simp)) h
  refine ⟨c1 ++ [edgeCs (f, t, z)] ++ c3, ?_, all2_append (all2_append (keep h1) (.cons (edgeRep_ok ⟨hf, ht, hz⟩) .nil)) (keep h3)⟩
  have h5 := ho.setOne (A.length * 3 + 2) (.int .u32 (z : Nat))
  have e1 : (c1 ++ [[Value.int .u32 (f : Nat)] ++ ([Value.int .u32 (t : Nat)] ++ [Value.int .u32 (y : Nat)])] ++ c3).flatten.set (A.length * 3 + 2) (.int .u32 (z : Nat)) = (c1 ++ [edgeCs (f, t, z)] ++ c3).flatten := by
    rw [List.flatten_append, List.flatten_append, List.flatten_append, List.flatten_append, List.append_assoc, List.set_append_right _ _ (by omega), hl1, show A.length * 3 + 2 - A.length * 3 = 2 by omega, List.append_assoc]
    rfl
  rw [← e1]
  have e2 : (A ++ [(f, t, z)] ++ B).length = (A ++ [(f, t, y)] ++ B).length := by simp
  rw [e2]
  exact h5
theorem edge_fp {w w' : World} {fp fp' : Nat → Prop} {x : EdgeD} {cs : List Value} (h : edgeRep.ok w fp x cs) : edgeRep.ok w' fp' x cs := h

set_option maxRecDepth 100000 in
set_option maxHeartbeats 3200000 in
theorem mergeSplits_walk (l : List EdgeD) (ao : Option Addr) (cap : Nat) (i : Int) (hi1 : -9223372036854775808 ≤ i) (hi2 : i ≤ 9223372036854775807) (u : Nat) (hu : u < 4294967296) (w : World) (hcap : l.length ≤ cap) (hcm : cap ≤ maxLen) (hrd : RdS edgeRep (fun b => b < w.heap.size) w ao l) :
    Calls Try.prog 7 #[.slice ao l.length cap, .int .i64 i, .int .u32 u] w fun e w' => e = .returned (.bool true) ∧ Below w.heap.size w w' := by
  by_cases hl : 100 < l.length
  · have hd : decide ((100 : Int) < l.length) = true := by simp; omega
    clear hrd
    go_enter Try.func7, Try.ntmps7
    go_wp2_with (go_at_call 14; refine (awake14_any _).mono ?_; rintro e w1 ⟨rfl, hB1⟩)
    go_ret
    exact ⟨rfl, hB1⟩
  · have hd : decide ((100 : Int) < l.length) = false := by simp; omega
    by_cases c2 : i < 0
    · have hd2 : decide (i < 0) = true := decide_eq_true c2
      clear hrd
      go_enter Try.func7, Try.ntmps7
      go_wp2_with (go_at_call 14; refine (awake14_any _).mono ?_; rintro e w1 ⟨rfl, hB1⟩)
      go_ret
      exact ⟨rfl, hB1⟩
    · have hd2 : decide (i < 0) = false := decide_eq_false c2
      by_cases c3 : (l.length : Int) ≤ i
      · have hd3 : decide ((l.length : Int) ≤ i) = true := decide_eq_true c3
        clear hrd
        go_enter Try.func7, Try.ntmps7
        go_wp2_with (go_at_call 14; refine (awake14_any _).mono ?_; rintro e w1 ⟨rfl, hB1⟩)
        go_ret
        exact ⟨rfl, hB1⟩
      · have hd3 : decide ((l.length : Int) ≤ i) = false := decide_eq_false c3
        by_cases c4 : u = 0
        · subst c4
          clear hrd
          go_enter Try.func7, Try.ntmps7
          go_wp2_with (go_at_call 14; refine (awake14_any _).mono ?_; rintro e w1 ⟨rfl, hB1⟩)
          go_ret
          exact ⟨rfl, hB1⟩
        · have hd4 : ((u : Int) == 0) = false := by simp; omega
          obtain ⟨I, rfl⟩ : ∃ I : Nat, i = I := ⟨i.toNat, by omega⟩
          have hI : I < l.length := by omega
          have hok : ∀ x ∈ l, okE x := fun x hx => by
            obtain ⟨j, hj, rfl⟩ := List.mem_iff_getElem.1 hx
            obtain ⟨_, _, _, _, _, _, _, h⟩ := hrd.edgeM j hj
            exact h
          obtain ⟨bb, off, rfl, hbb, lc0, lc1, lc2, hoke⟩ := hrd.edgeM I hI
          have hspl : l = l.take I ++ [l[I]] ++ l.drop (I + 1) := by
            rw [List.append_assoc, List.singleton_append, ← List.drop_eq_getElem_cons hI, List.take_append_drop]
          have hAl : (l.take I).length = I := by rw [List.length_take]; omega
          generalize l.take I = A at hspl hAl
          generalize l.drop (I + 1) = B at hspl
          generalize l[I] = e at hspl lc0 lc1 lc2 hoke
          obtain ⟨f, t, wg⟩ := e
          simp only at lc0 lc1 lc2
          by_cases c5 : wg ≤ u
          · have hd5 : decide ((wg : Int) ≤ (u : Int)) = true := decide_eq_true (by omega)
            have hir : (I : Int) < (l.length : Int) := by omega
            clear hrd hspl hok
            go_enter Try.func7, Try.ntmps7
            go_wp2_with (go_at_call 14; refine (awake14_any _).mono ?_; rintro e w1 ⟨rfl, hB1⟩)
            go_ret
            exact ⟨rfl, hB1⟩
          · have hd5 : decide ((wg : Int) ≤ (u : Int)) = false := decide_eq_false (by omega)
            obtain ⟨v, hv⟩ : ∃ v, wg = u + v := ⟨wg - u, by omega⟩
            have hv0 : 0 < v := by omega
            have hrows : rowsOf (keysM (sortR l)) = rowsOf (keysM (sortR (A ++ [(f, t, u)] ++ B ++ [(f, t, v)]))) := by
              rw [hspl, hv]
              rw [hspl, hv] at hok
              exact split_rows A B f t u v (by omega) hv0 hok
            have hlen2 : (A ++ [(f, t, u)] ++ B ++ [(f, t, v)]).length = l.length + 1 := by rw [hspl]; simp; omega
            have hlen1 : (A ++ [(f, t, u)] ++ B).length = l.length := by rw [hspl]; simp
            obtain ⟨L2, hL2⟩ : ∃ L, A ++ [(f, t, u)] ++ B ++ [(f, t, v)] = L := ⟨_, rfl⟩
            rw [hL2] at hrows hlen2
            have HL2 := Lib.hid hL2
            clear hL2
            obtain ⟨css, hall, hsrc⟩ := hrd.srcAll oneEdge (P := Try.prog) (tx := 53) Try.underlying53
            have hall' : All2 (fun x cs => edgeRep.ok w (fun b => b < w.heap.size) x cs) (A ++ [(f, t, wg)] ++ B) css := by rw [← hspl]; exact hall
            have hcw : css.flatten[I * 3 + 2]? = some (.int .u32 (wg : Nat)) := by
              obtain ⟨cs, ⟨c, d, rfl, ⟨rfl, _⟩, c4, d4, rfl, ⟨rfl, _⟩, ⟨rfl, _⟩⟩, h4⟩ := flatten_chunk edgeRep _ w hall' I (f, t, wg) (by rw [List.append_assoc, List.getElem?_append_right (by omega), hAl, Nat.sub_self]; rfl)
              exact h4 2 (by decide)
            have HS1 := Lib.hid (fun (W : World) (hB : Below w.heap.size w W) => rsorted_any l (some ⟨bb, off, none⟩) cap _ W (by omega) (hrd.ext hB))
            have HS2 := Lib.hid (fun (W : World) (a : Option Addr) (c : Nat) (fp : Nat → Prop) (h : RdS edgeRep fp W a L2) => rsorted_any L2 a c fp W (by omega) h)
            rw [hlen2] at HS2
            have HK := Lib.hid (fun (s : List EdgeD) (W : World) (a : Option Addr) (c : Nat) (fp : Nat → Prop) (hs : s.length ≤ 1000) (h : RdS edgeRep fp W a s) => rkeys_any s a c fp W (by omega) h)
            have HRw := Lib.hid (fun (s : List (List UInt8)) (W : World) (a : Option Addr) (c : Nat) (hs : s.length ≤ 1000) (h : RdS (Rep.slice Rep.u8) (fun k => k < W.heap.size) W a s) => rows_any s a c W (by omega) h)
            have hsl1 := sortR_len l
            have hsl2 := sortR_len L2
            have hkl : ∀ s, (keysM s).length = s.length := fun s => by simp [keysM]
            have hlen : (rowsOf (keysM (sortR l))).1.length ≤ 1073741824 := by have := rowsOf_len (keysM (sortR l)); rw [hkl] at this; omega
            have hrowsl : ∀ p ∈ (rowsOf (keysM (sortR l))).1, p.2.length ≤ 1073741824 := fun p hp => by have := rowsOf_arcs (keysM (sortR l)) p hp; rw [hkl] at this; omega
            obtain ⟨⟨R, er⟩, hp⟩ : ∃ r, rowsOf (keysM (sortR l)) = r := ⟨_, rfl⟩
            have hp2 := hrows.symm.trans hp
            rw [hp] at hlen hrowsl
            simp only at hlen hrowsl
            have hee : ((er : Int) == er) = true := by simp
            have Hp := Lib.hid hp
            have Hp2 := Lib.hid hp2
            have Hspl := Lib.hid hspl
            have Hrowsl := Lib.hid hrowsl
            have Hsrc := Lib.hid hsrc
            have Hall := Lib.hid hall'
            have Hrd := Lib.hid hrd
            have Hl1 := Lib.hid hlen1
            have Hl2 := Lib.hid hlen2
            have Hsl1 := Lib.hid hsl1
            have Hsl2 := Lib.hid hsl2
            have Hkl := Lib.hid hkl
            have Hok := Lib.hid hoke
            have HAl := Lib.hid hAl
            have Hcw := Lib.hid hcw
            have Hv := Lib.hid hv
            have hir : (I : Int) < (l.length : Int) := by omega
            have hE := edgeElem
            clear hp hp2 hspl hrowsl hsrc hall hall' hrd hlen1 hlen2 hsl1 hsl2 hkl hok hoke hAl hcw hrows hv
            go_enter Try.func7, Try.ntmps7
            go_wp2_with (at_builtin; refine wpList_app rfl (.tmp 39) (.tmp 40) 53 53 rfl hE (Own.emptyAt w 24 3 _ (by simp)) rfl rfl (Hsrc.out _ (ext_alloc w _) _) (by simp [maxLen]; omega) (by omega) ?_; intro ao1 cap1 g1 w1 ho1 hg1 hon1; rw [Nat.zero_add, List.nil_append] at ho1; obtain ⟨b1, rfl, rfl, hb1⟩ := ho1.pos (by omega); have s2 := (ho1.cell (I * 3 + 2) (by omega)).trans Hcw.out; have sf := ho1.frozen (I * 3 + 2); have hB1 : Below w.heap.size w w1 := (ext_alloc w _).trans (hon1.below (by simp) (fun j hj e => by have := Option.some.inj e; omega)); have hbn : w.heap.size ≤ b1 := (by rcases hg1 with e | e <;> have e := Option.some.inj e <;> first | omega | (simp at e; omega)); have HB1 := Lib.hid hB1; have Ho1 := Lib.hid ho1; clear hg1 hon1 ho1 hB1)
            obtain ⟨W2, hW2⟩ : ∃ z, w1.setCell ⟨b1, I * 3 + 2, none⟩ (.int .u32 (u : Nat)) = z := ⟨_, rfl⟩
            have hO1 : OwnS edgeRep (fun _ => False) w1 (some ⟨b1, 0, none⟩) cap1 (some b1) 24 (A ++ [(f, t, wg)] ++ B) := ⟨css, by rw [← Hspl.out]; exact Ho1.out, forall2_imp (fun _ _ h => edge_fp h) Hall.out⟩
            have hO2 : OwnS edgeRep (fun _ => False) W2 (some ⟨b1, 0, none⟩) cap1 (some b1) 24 (A ++ [(f, t, u)] ++ B) := by
              have h := hO1.edgeSet (z := u) hu
              rw [HAl.out] at h
              rw [← hW2]; exact h
            have hB2 : Below w.heap.size w W2 := by rw [← hW2]; exact HB1.out.setCell hbn _
            have hs2 : w1.heap.size ≤ W2.heap.size := by rw [← hW2]; simp
            have m0 := ((bcell hB2).1 bb _ hbb).trans lc0
            have m1 := ((bcell hB2).1 bb _ hbb).trans lc1
            have m2 := ((bcell hB2).1 bb _ hbb).trans lc2
            obtain ⟨css2, ho2, hall2⟩ := hO2
            rw [Hl1.out] at ho2
            have Ho2 : Hid (Own W2 (some ⟨b1, 0, none⟩) cap1 (some b1) 24 3 l.length css2.flatten) := Lib.hid ho2
            have Hall2 := Lib.hid hall2
            have HB2 := Lib.hid hB2
            have hww : IntKind.u32.wrap ((wg : Int) - (u : Int)) = (v : Int) := by
              have h1 := Hok.out.2.2
              have h2 := Hv.out
              simp only at h1
              rw [IntWalk.u32_in _ (by omega)]; omega
            rw [hW2]
            clear hW2 hO1 ho2 hall2 hB2 s2 sf
            go_region_held3 (fun w' => w'.cell? ⟨bb, off + I * 3, none⟩ = some (.int .u32 (f : Nat)) ∧ w'.cell? ⟨bb, off + I * 3 + 1, none⟩ = some (.int .u32 (t : Nat)) ∧ w'.cell? ⟨bb, off + I * 3 + 2, none⟩ = some (.int .u32 (wg : Nat)))
              (first | exact ⟨m0, m1, m2⟩ | exact HP.out | (refine ⟨?_, ?_, ?_⟩ <;> simp [go_sem, ↓IntWalk.iteOmega, m0, m1, m2]; done))
              (first
                | ((refine step_app (g := some b1) (xs := css2.flatten) (m := 1) (news := [.int .u32 (f : Nat), .int .u32 (t : Nat), .int .u32 (v : Nat)]) rfl (.tmp 47) (.tmp 66) 53 53 rfl hE ?_ rfl rfl ?_ ?_ ?_ ?_; (exact (Ho2.out.ext (ext_drew _)).alloc _); ((try rw [alloc_drew]); refine srcManyE Try.underlying53 _ [_, _, _] _ _ 3 _ ?_ rfl ?_; (first | rfl | omega | (focus (simp; done))); (focus (simp [Value.oneCell']; done))); (first | (simp only [maxLen]; omega) | (focus (simp [maxLen]; done))); (first | omega | (focus (simp; done)))); intro ao3 cap3 g3 w3 ho3 hg3 hon3; have hB3 : Below w.heap.size w w3 := HB2.out.trans (((ext_drew W2).alloc (by simp) _ |>.mono HB2.out.size).trans (hon3.below (by have := HB2.out.size; simp; omega) (fun j hj e => by have := Option.some.inj e; omega))); have hg3n : ∀ j, g3 = some j → w.heap.size ≤ j := (fun j h => by have := HB2.out.size; rcases hg3 with e | e <;> rw [e] at h <;> have h := Option.some.inj h <;> first | omega | (simp at h; omega)); have HP := Lib.hid (And.intro (((bcell hB3).1 bb _ hbb).trans lc0) (And.intro (((bcell hB3).1 bb _ hbb).trans lc1) (((bcell hB3).1 bb _ hbb).trans lc2))); have Ho3 := Lib.hid ho3; have Hg3 := Lib.hid hg3n; have HB3 := Lib.hid hB3; clear ho3 hg3 hon3 hg3n hB3)
                | fail "no arm")
            clear hww m0 m1 m2
            have hO3 : RdS edgeRep (fun j => w.heap.size ≤ j) w3 ao3 L2 := by
              rw [← HL2.out]
              have h : OwnS edgeRep (fun _ => False) w3 ao3 cap3 g3 24 (A ++ [(f, t, u)] ++ B ++ [(f, t, v)]) := ⟨css2 ++ [edgeCs (f, t, v)], by rw [HL2.out, Hl2.out]; simpa [edgeCs] using (show Own w3 ao3 cap3 g3 24 edgeRep.size (l.length + 1) _ from Ho3.out), all2_append (forall2_imp (fun _ _ h => edge_fp h) Hall2.out) (.cons (edgeRep_ok ⟨Hok.out.1, Hok.out.2.1, by have h1 := Hok.out.2.2; have := Hv.out; simp only at h1 ⊢; omega⟩) .nil)⟩
              exact h.rd.mono (fun b h _ => h.elim (fun h => h.elim) (Hg3.out b))
            have HO3 := Lib.hid hO3
            clear hO3
            go_wp2_with (first
              | (go_at_call 27; (with_reducible refine (HS1.out w3 HB3.out).mono ?_); rintro e w4 ⟨a4, k4, rfl, h1, h2, hr4, hB4⟩; have Hr4 := Lib.hid hr4; have HB4 := Lib.hid (HB3.out.trans (hB4.mono HB3.out.size)); have HQ4 := Lib.hid hB4; clear h1 h2 hr4 hB4)
              | (go_at_call 26; (with_reducible refine (HK.out _ w4 a4 k4 _ (by rw [Hsl1.out]; omega) Hr4.out).mono ?_); rintro e w5 ⟨a5, k5, rfl, h1, h2, hr5, hB5⟩; have Hr5 := Lib.hid hr5; have HB5 := Lib.hid (HB4.out.trans (hB5.mono HB4.out.size)); have HQ5 := Lib.hid (HQ4.out.trans (hB5.mono HQ4.out.size)); clear h1 h2 hr5 hB5)
              | (go_at_call 20; (with_reducible refine (HRw.out _ w5 a5 k5 (by rw [Hkl.out, Hsl1.out]; omega) (Hr5.out.mono (fun b _ hb => hb))).mono ?_); rintro e w6 ⟨a6, k6, rfl, h1, h2, hr6, hB6⟩; have HB6 := Lib.hid (HB5.out.trans (hB6.mono HB5.out.size)); have HQ6 := Lib.hid (HQ5.out.trans (hB6.mono HQ5.out.size)); rw [Hp.out] at hr6 ⊢; have Hr6 := Lib.hid hr6; clear h1 h2 hr6 hB6)
              | (go_at_call 27; (refine (HS2.out w6 ao3 cap3 _ (HO3.out.ext HQ6.out)).mono ?_); rintro e w7 ⟨a7, k7, rfl, h1, h2, hr7, hB7⟩; have Hr7 := Lib.hid hr7; have HB7 := Lib.hid (HB6.out.trans (hB7.mono HB6.out.size)); have HT7 := Lib.hid hB7; clear h1 h2 hr7 hB7)
              | (go_at_call 26; (refine (HK.out _ w7 a7 k7 _ (by rw [Hsl2.out, Hl2.out]; omega) Hr7.out).mono ?_); rintro e w8 ⟨a8, k8, rfl, h1, h2, hr8, hB8⟩; have Hr8 := Lib.hid hr8; have HB8 := Lib.hid (HB7.out.trans (hB8.mono HB7.out.size)); have HT8 := Lib.hid (HT7.out.trans (hB8.mono HT7.out.size)); clear h1 h2 hr8 hB8)
              | (go_at_call 20; (refine (HRw.out _ w8 a8 k8 (by rw [Hkl.out, Hsl2.out, Hl2.out]; omega) (Hr8.out.mono (fun b _ hb => hb))).mono ?_); rintro e w9 ⟨a9, k9, rfl, h1, h2, hr9, hB9⟩; have HB9 := Lib.hid (HB8.out.trans (hB9.mono HB8.out.size)); have HT9 := Lib.hid (HT8.out.trans (hB9.mono HT8.out.size)); rw [Hp2.out] at hr9 ⊢; have Hr9 := Lib.hid hr9; clear h1 h2 hr9 hB9)
              | (go_at_call 22; refine (same14_any R a6 a9 k6 k9 _ _ _ hlen Hrowsl.out (Hr6.out.ext HT9.out) Hr9.out).mono ?_; rintro e wa ⟨rfl, hBa⟩; have HBa := Lib.hid (HB9.out.trans (hBa.mono HB9.out.size)); clear hBa)
              | (go_at_call 14; refine (awake14_any _).mono ?_; rintro e wb ⟨rfl, hBb⟩; have HBb := Lib.hid (HBa.out.trans (hBb.mono HBa.out.size)); clear hBb))
            go_ret
            exact ⟨rfl, HBb.out⟩
end Go.Proofs.Ytafbjkbdfdeacaa
