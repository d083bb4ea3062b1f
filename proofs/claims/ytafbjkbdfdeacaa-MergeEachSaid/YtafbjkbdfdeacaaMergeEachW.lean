/- MergeEach: the walk. -/
import Derived.Test.YtafbjkbdfdeacaaMergeTold
import Derived.Test.YtafbjkbdfdeacaaTextLinesW
namespace Go.Proofs.Ytafbjkbdfdeacaa
set_option linter.unusedSimpArgs false
set_option linter.unusedVariables false
open Go.RowKit

attribute [local go_sem] Oper.semAt_some

/-- what the round's element may be -/
theorem each_next {recs : List (List UInt8)} {pre : List EachM} {x : EachM} (h : (pre ++ [x]).map (·.1) <+: toldRE (0, []) [] recs) : (∀ y ∈ pre, y.1.2 = 0) ∧ (x.1.2 ≠ 0 → x.1.1 = (0, [])) := by
  have hm : x.1 ∈ toldRE (0, []) [] recs := h.subset (by simp)
  unfold toldRE at h hm
  refine ⟨fun y hy => ?_, fun hx => ?_⟩
  · have h1 : pre.map (·.1) <+: (mtold (0, []) [] recs).1.map (fun p => (p, 0)) := by
      have h2 : pre.map (·.1) <+: (mtold (0, []) [] recs).1.map (fun p => (p, 0)) ++ (if (mtold (0, []) [] recs).2 = 0 then [] else [((0, []), (mtold (0, []) [] recs).2)]) := by
        refine List.IsPrefix.trans ?_ h
        rw [List.map_append]; exact List.prefix_append _ _
      refine List.prefix_of_prefix_length_le h2 (List.prefix_append _ _) ?_
      have := h.length_le
      rw [List.length_append] at this
      split at this <;> simp at this ⊢ <;> omega
    have h3 : y.1 ∈ (mtold (0, []) [] recs).1.map (fun p => (p, 0)) := h1.subset (List.mem_map_of_mem hy)
    obtain ⟨p, _, hp⟩ := List.mem_map.1 h3
    rw [← hp]
  · rcases List.mem_append.1 hm with h1 | h1
    · obtain ⟨p, _, hp⟩ := List.mem_map.1 h1
      rw [← hp] at hx; exact absurd rfl hx
    · split at h1
      · simp at h1
      · rw [List.mem_singleton.1 h1]
def metBad (met : List RowD) (bad : Nat) : List (RowD × Nat) := met.map (fun p => (p, 0)) ++ if bad = 0 then [] else [((0, []), bad)]
theorem filt_met (met : List RowD) (bad : Nat) : ((metBad met bad).filter (fun x => x.2 == 0)).map (·.1) = met := by
  unfold metBad
  rw [List.filter_append]
  have h1 : (met.map (fun p => ((p, 0) : RowD × Nat))).filter (fun x => x.2 == 0) = met.map (fun p => (p, 0)) := List.filter_eq_self.2 (fun x hx => by obtain ⟨p, _, rfl⟩ := List.mem_map.1 hx; rfl)
  have h2 : ((if bad = 0 then [] else [((0, []), bad)]) : List (RowD × Nat)).filter (fun x => x.2 == 0) = [] := by split <;> simp [*]
  rw [h1, h2, List.append_nil, List.map_map]
  simp [Function.comp_def]
theorem met_all {recs : List (List UInt8)} {met : List RowD} {bad : Nat} (h : metBad met bad = toldRE (0, []) [] recs) : mtold (0, []) [] recs = (met, bad) := by
  have h0 : toldRE (0, []) [] recs = metBad (mtold (0, []) [] recs).1 (mtold (0, []) [] recs).2 := rfl
  have h1 : met = (mtold (0, []) [] recs).1 := by
    have := congrArg (fun l => (l.filter (fun x => x.2 == 0)).map (·.1)) h
    rw [h0, filt_met, filt_met] at this
    exact this
  rw [h0] at h
  unfold metBad at h
  rw [h1] at h
  have h2 := List.append_cancel_left h
  refine Prod.ext h1.symm ?_
  simp only
  by_cases ha : bad = 0
  · rw [if_pos ha] at h2
    split at h2
    · omega
    · simp at h2
  · rw [if_neg ha] at h2
    split at h2
    · simp at h2
    · simpa using h2.symm
theorem met_some {recs : List (List UInt8)} {met : List RowD} (h : metBad met 0 <+: toldRE (0, []) [] recs) : met <+: (mtold (0, []) [] recs).1 := by
  have h0 : toldRE (0, []) [] recs = metBad (mtold (0, []) [] recs).1 (mtold (0, []) [] recs).2 := rfl
  have h1 := (List.IsPrefix.filter (fun x : RowD × Nat => x.2 == 0) h).map (·.1)
  rwa [h0, filt_met, filt_met] at h1

def eachJ (s : Nat) (L : List RowD → Nat → Prop) (pre : List EachM) (fq : Nat → Prop) (W : World) : Prop :=
  ∃ (ao : Option Addr) (cap : Nat) (g : Option Nat) (fe : Nat → Prop) (met : List RowD) (bad : Nat), L met bad ∧ pre.map (·.1) = metBad met bad ∧
    W.cell? ⟨s + 1 + 1 + 1, 0, none⟩ = some (.slice ao met.length cap) ∧ W.cell? ⟨s + 1 + 1 + 1 + 1, 0, none⟩ = some (.int .i64 (bad : Nat)) ∧
    (W.frozen? ⟨s + 1 + 1 + 1, 0, none⟩ = false ∧ W.frozen? ⟨s + 1 + 1 + 1 + 1, 0, none⟩ = false) ∧ OwnS rowRep fe W ao cap g 51 met ∧
    (∀ k, fe k → fq k ∧ s + 5 ≤ k ∧ g ≠ some k) ∧ (∀ k, g = some k → fq k ∧ s + 2 ≤ k ∧ k ≠ s + 3 ∧ k ≠ s + 4) ∧ (fq (s + 3) ∧ fq (s + 4))
theorem eachJ.stays {s : Nat} {L : List RowD → Nat → Prop} {pre : List EachM} {fq : Nat → Prop} {A B : World} (h : eachJ s L pre fq A) (hs : Stays fq A B) : eachJ s L pre fq B := by
  obtain ⟨ao, cap, g, fe, met, bad, h0, h1, h2, h3, h4, h5, h6, h7, h8⟩ := h
  exact ⟨ao, cap, g, fe, met, bad, h0, h1, (hs.cell h8.1 0).trans h2, (hs.cell h8.2 0).trans h3, ⟨(hs.frozen h8.1 0).trans h4.1, (hs.frozen h8.2 0).trans h4.2⟩,
    h5.stays hs (fun b hb _ => hb.elim (fun h => (h6 b h).1) (fun h => (h7 b h).1)), h6, h7, h8⟩

theorem each_step {s : Nat} {L : List RowD → Nat → Prop} {pre : List EachM} {fq tp fe : Nat → Prop} {W W3 : World} {ao3 : Option Addr} {cap3 : Nat} {g g3 : Option Nat} {met : List RowD} {p : RowD} {ax : Option Addr} {cx : Nat} {css : List (List Value)}
    (Hall : All2 (fun x cs => rowRep.ok W fe x cs) met css) (hor : RdS arcRep tp W ax p.2) (hxc : p.2.length ≤ cx) (hxm : cx ≤ maxLen) (hxi : p.1 < 4294967296) (q3 : fq (s + 3)) (q4 : fq (s + 4)) (h1 : pre.map (·.1) = metBad met 0)
    (h6 : ∀ k, fe k → fq k ∧ s + 5 ≤ k ∧ g ≠ some k) (h7 : ∀ k, g = some k → fq k ∧ s + 2 ≤ k ∧ k ≠ s + 3 ∧ k ≠ s + 4) (hflt : ∀ k, fq k → k < W.heap.size) (htp : ∀ k, tp k → s + 5 ≤ k ∧ k < W.heap.size ∧ ¬ fq k)
    (ho3 : Own W3 ao3 cap3 g3 51 2 (met.length + 1) (css.flatten ++ [.int .u32 (p.1 : Nat), .slice ax p.2.length cx])) (hg3 : ∀ k, g3 = some k → g = some k ∨ W.heap.size ≤ k) (hon : Only (fun k => g = some k ∨ k = s + 4) W W3) (hs : s + 5 ≤ W.heap.size)
    (e3 : W3.cell? ⟨s + 1 + 1 + 1, 0, none⟩ ≠ none) (e4 : W3.cell? ⟨s + 1 + 1 + 1 + 1, 0, none⟩ = some (.int .i64 0)) (j3 : W3.frozen? ⟨s + 1 + 1 + 1, 0, none⟩ = false) (j4 : W3.frozen? ⟨s + 1 + 1 + 1 + 1, 0, none⟩ = false) (hL : L (met ++ [p]) 0) :
    ∃ fp', FwdT fq tp fp' W (W3.setCell ⟨s + 1 + 1 + 1, 0, none⟩ (.slice ao3 (met.length + 1) cap3)) ∧ eachJ s L (pre ++ [((p, 0), ax, cx)]) fp' (W3.setCell ⟨s + 1 + 1 + 1, 0, none⟩ (.slice ao3 (met.length + 1) cap3)) := by
  have hfe : ∀ b, (fe b ∨ tp b) → b < W.heap.size ∧ g ≠ some b ∧ s + 5 ≤ b := fun b hb => by
    rcases hb with h | h
    · exact ⟨hflt b (h6 b h).1, (h6 b h).2.2, (h6 b h).2.1⟩
    · exact ⟨(htp b h).2.1, fun e => (htp b h).2.2 (h7 b e).1, (htp b h).1⟩
  have hsz3 := hon.size
  have hS : OwnS rowRep (fun k => fe k ∨ tp k) W3 ao3 cap3 g3 51 (met ++ [p]) := by
    refine OwnS.snoc (w := W) (forall2_imp (fun x cs h => rowRep.mono h (fun b hb _ => .inl hb)) Hall) (cs := [.int .u32 (p.1 : Nat), .slice ax p.2.length cx]) (rowRep_ok hxc hxm hxi ?_) ho3 (fun b hb hl => hon.same b hl ?_) hsz3
    · exact (hor.only hon (fun b hb hl h => h.elim (hfe b (.inr hb)).2.1 (fun e => by have := (hfe b (.inr hb)).2.2; omega))).mono (fun b hb _ => .inr hb)
    · exact fun h => h.elim (hfe b hb).2.1 (fun e => by have := (hfe b hb).2.2; omega)
  have hO : Only fq W (W3.setCell ⟨s + 1 + 1 + 1, 0, none⟩ (.slice ao3 (met.length + 1) cap3)) := (hon.mono (fun k _ hk => hk.elim (fun h => (h7 k h).1) (fun h => h ▸ q4))).setCell (fun _ => q3) _
  have hg5 : ∀ k, g3 = some k → s + 2 ≤ k ∧ k ≠ s + 3 ∧ k ≠ s + 4 := fun k h => (hg3 k h).elim (fun h => (h7 k h).2) (fun h => by omega)
  refine ⟨fun k => k = s + 3 ∨ k = s + 4 ∨ fe k ∨ tp k ∨ g3 = some k, ⟨hO, fun k hk => ?_⟩, ao3, cap3, g3, fun k => fe k ∨ tp k, met ++ [p], 0, hL, ?_, ?_, ?_, ⟨?_, ?_⟩, ?_, fun k hk => ⟨by
      rcases hk with h | h
      · exact .inr (.inr (.inl h))
      · exact .inr (.inr (.inr (.inl h))), (hfe k hk).2.2, fun e => (hg3 k e).elim (hfe k hk).2.1 (fun h => by have := (hfe k hk).1; omega)⟩, fun k hk => ⟨by simp [hk], hg5 k hk⟩, .inl rfl, .inr (.inl rfl)⟩
  · rw [World.size_setCell]
    rcases hk with rfl | rfl | h | h | h
    · exact ⟨.inl q3, by omega⟩
    · exact ⟨.inl q4, by omega⟩
    · exact ⟨.inl (h6 k h).1, by have := (hfe k (.inl h)).1; omega⟩
    · exact ⟨.inr (.inl h), by have := (hfe k (.inr h)).1; omega⟩
    · exact ⟨(hg3 k h).elim (fun h => .inl (h7 k h).1) (fun h => .inr (.inr h)), ho3.lt k h⟩
  · rw [List.map_append, h1]; simp [metBad]
  · obtain ⟨v, hv⟩ := Option.ne_none_iff_exists'.1 e3
    rw [cell_set_ite, if_pos rfl, if_pos rfl, hv]
    simp
  · simp only [cell_set_ite]
    rw [if_neg (by omega)]
    exact e4
  · rw [World.frozen?_setCell]; exact j3
  · rw [World.frozen?_setCell]; exact j4
  · refine hS.keep (fun b hb hl => Below.heap_setCell _ _ _ _ (fun e => ?_)) (by simp)
    simp only at e
    rcases hb with h | h
    · have := (hfe b h).2.2; omega
    · have := (hg5 b h).2.1; omega
def eachOver (n k : Nat) (w : World) (i : Value) (wr : World) : Prop := ∃ j : Nat, j ≤ n ∧ i = .int .i64 (j : Nat) ∧ wr = (w.alloc (Obj.cells #[Value.int IntKind.u8 k] 5)).alloc (Obj.cells #[Value.bool false] 4)

set_option maxHeartbeats 400000 in
theorem each14_nil (w : World) :
    Calls Try.prog 24 #[.nilFunc] w fun e w' => e = .returned (.func (.func 44) #[] #[.pointer (some ⟨w.heap.size, 0, none⟩)]) ∧ w' = w.alloc (.cells #[.nilFunc] 47) := by
  have hmf : ∀ (fn : Fn) (first cap : Array Value) (w : World), (Instr.makeFunc fn first cap).run Try.prog w = .ok (.func fn first cap) w := fun _ _ _ _ => rfl
  go_enter Try.func24, Try.ntmps24
  go_wp2
  go_ret
  exact ⟨rfl, rfl⟩
set_option maxRecDepth 100000 in
set_option maxHeartbeats 1600000 in
theorem each14_nil_iter (eb : Nat) : IterT Try.prog 44 #[.pointer (some ⟨eb, 0, none⟩)] encM (fun _ => True) (fun xs => xs = []) (fun _ => True) (fun _ _ _ _ => False)
      (fun W => W.cell? ⟨eb, 0, none⟩ = some .nilFunc) (fun k => k = eb) (fun _ => False) := by
  rintro ly J Jx fp w hce hfp hJ hJx _ hY h0
  have hq : ∀ (w : World), (binOp .eql 47 .nilFunc .nilFunc).run Try.prog w = .ok (.bool true) w := fun _ => by kernel_rfl
  have heb : eb < w.heap.size := World.block_lt_of_cell? w _ hce
  have HJ := Lib.hid hJ
  have Hfp := Lib.hid hfp
  have H0 := Lib.hid h0
  clear hJ hJx hY hfp h0
  refine callsIn_of_wp_marks Try.func44 rfl trivial ?_
  simp only [Try.ntmps44, List.size_toArray, List.length_cons, List.length_nil, Nat.reduceAdd, Nat.reduceSub, Array.replicate_succ, Array.replicate_zero, List.push_toArray, List.append_toArray, List.nil_append, List.cons_append]
  gi_wp2_with fail
  have hB1 : Below w.heap.size w ((w.alloc (Obj.cells #[Value.func (Fn.yield ly) #[] #[]] 86)).alloc (Obj.cells #[Value.int IntKind.u32 0, Value.slice none 0 0, Value.slice none 0 0] 88)) := (ext_alloc w _).alloc (by simp) _
  refine leaveM0 (results_none rfl _ _ _) (IterEnd.mk [] fp (Only.of_below hB1) (fun k hk => ⟨.inl hk, by have := (Hfp.out k hk).1; simp; omega⟩) (.inl ⟨rfl, J_ext HJ.out H0.out (fun k hk => (Hfp.out k hk).1) hB1⟩))
theorem leaveM2 {P : Program} {fn : Func} {tmps : Array Value} {R : Ending → World → Prop} {D D' : Nat} {W : World} {v : Value} (hk : W.heap[D]? = some (.deferred (some []))) (hk' : (W.putObj D (.deferred none)).heap[D']? = some (.deferred (some [])))
    (hr : (results fn tmps).run P ((W.putObj D (.deferred none)).putObj D' (.deferred none)) = .ok v ((W.putObj D (.deferred none)).putObj D' (.deferred none))) (hR : R (.returned v) ((W.putObj D (.deferred none)).putObj D' (.deferred none))) :
    LeavesInM Fence.wide 0 P fn tmps R [{ target := .collected D, args := #[] }, { target := .collected D', args := #[] }] .returning W :=
  ⟨by simp, .inl ⟨_, _, rfl, run_takeDeferred hk, leaveM1 hk' hr hR⟩⟩

set_option maxRecDepth 100000 in
set_option maxHeartbeats 3200000 in
theorem mergeEach_walk (recs : List (List UInt8)) (ao : Option Addr) (cap : Nat) (K : Nat) (hK : K ≤ 255) (w : World) (hcap : recs.length ≤ cap) (hrd : RdS (Rep.slice Rep.u8) (fun k => k < w.heap.size) w ao recs) :
    Calls Try.prog 5 #[.slice ao recs.length cap, .int .u8 K] w fun e w' => e = .returned (.bool true) ∧ Below w.heap.size w w' := by
  have hq : ∀ (fn : Fn) (a b : Array Value) (w : World), (binOp .eql 44 (.func fn a b) .nilFunc).run Try.prog w = .ok (.bool false) w := fun _ _ _ _ => by kernel_rfl
  have Hrd := Lib.hid hrd
  clear hrd
  by_cases hl : 60 < recs.length
  · have hd : decide ((60 : Int) < recs.length) = true := by simp; omega
    refine (callsIn_wide (n := 0)).1 (callsIn_of_wp_marks Try.func5 rfl trivial ?_)
    simp only [Try.ntmps5, List.size_toArray, List.length_cons, List.length_nil, Nat.reduceAdd, Nat.reduceSub, Array.replicate_succ, Array.replicate_zero, List.push_toArray, List.append_toArray, List.nil_append, List.cons_append]
    gi_wp2_with (gi_at_call 14; refine (callsIn_wide.2 (awake14_any _)).mono ?_; rintro e w1 ⟨rfl, hB1⟩; obtain ⟨hc1, hf1⟩ := bext hB1)
    refine leaveM0 (v := .bool true) ?_ ⟨rfl, (((ext_alloc w _).alloc (by simp) _).trans (hB1.mono (by simp; omega))).setCell (by simp) _⟩
    simp [results, Try.results5, go_sem, hc1, ↓IntWalk.iteOmega]
  · have hd : decide ((60 : Int) < recs.length) = false := by simp; omega
    have hT := fun W h => rtoldM_any recs ao cap W (by omega) hcap h
    have hit := fun eb b => each14_iter eb b recs ao cap (fun k => k < w.heap.size) (by omega)
    have HT := Lib.hid hT
    clear hT
    refine (callsIn_wide (n := 0)).1 (callsIn_of_wp_marks Try.func5 rfl trivial ?_)
    simp only [Try.ntmps5, List.size_toArray, List.length_cons, List.length_nil, Nat.reduceAdd, Nat.reduceSub, Array.replicate_succ, Array.replicate_zero, List.push_toArray, List.append_toArray, List.nil_append, List.cons_append]
    gi_wp2_with fail
    gi_loopw [5] (fun i wr => eachOver recs.length K w i wr) (fun i _ => recs.length - (intOf i).toNat)
    case atStart => exact ⟨0, by omega, rfl, rfl⟩
    case round =>
      obtain ⟨k, hk, rfl, rfl⟩ := hrel
      by_cases hlt : k < recs.length
      · obtain ⟨bb, off, cs, rfl, _, hbb, ⟨ra, rc, rfl, hrc1, hrc2, hrr⟩, hcell⟩ := Hrd.out.at k hlt
        have hce := hcell 0 Nat.one_pos
        simp only [Rep.slice, Nat.mul_one, Nat.add_zero, List.getElem?_cons_zero] at hce
        have hir : (k : Int) < (recs.length : Int) := by omega
        have hgk : recs[k]? = some recs[k] := List.getElem?_eq_getElem hlt
        obtain ⟨r, hr⟩ : ∃ r, recs[k] = r := ⟨_, rfl⟩
        rw [hr] at hce hrc1 hgk
        have hce' := ((bcell ((ext_alloc w (Obj.cells #[Value.int IntKind.u8 K] 5)).alloc (by simp) (Obj.cells #[Value.bool false] 4))).1 bb (off + k) hbb).trans hce
        clear hcell hrr hgk hr hce
        by_cases hbig : 100 < r.length
        · have hd2 : decide ((100 : Int) < r.length) = true := by simp; omega
          gi_wp2_with (gi_at_call 14; refine (callsIn_wide.2 (awake14_any _)).mono ?_; rintro e w1 ⟨rfl, hB1⟩; obtain ⟨hc1, hf1⟩ := bext hB1)
          refine leaveM0 (v := .bool true) ?_ ⟨rfl, (((ext_alloc w _).alloc (by simp) _).trans (hB1.mono (by simp; omega))).setCell (by simp) _⟩
          simp [results, Try.results5, go_sem, hc1, ↓IntWalk.iteOmega]
        · have hd2 : decide ((100 : Int) < r.length) = false := by simp; omega
          gi_wp2_with fail
          go_roundw
          case rel => exact ⟨k + 1, by omega, by go_num, rfl⟩
          case measure => simp [intOf]; omega
      · obtain rfl : k = recs.length := by omega
        have htl := mtold_err recs (0, []) []
        gi_wp2_with (first
          | (gi_at_call 23; refine (callsIn_wide.2 (HT.out _ ((Hrd.out.ext ((ext_alloc w _).alloc (by simp) _)).mono (fun b _ h => by simp; omega)))).mono ?_; rintro e w1 ⟨a1, c1, rfl, h1, h2, hr1, hB1⟩; obtain ⟨hc1, hf1⟩ := bext hB1; have hz1 := hB1.size; simp at hz1; have Hr1 := Lib.hid hr1; have HB1 := Lib.hid hB1; clear hr1 hB1)
          | (gi_at_call 25; refine (callsIn_wide.2 (vals_any _ _ _ _)).mono ?_; rintro e w2 ⟨rfl, rfl⟩)
          | (gi_at_call 24; refine (callsIn_wide.2 (each14_any _ _ _ _)).mono ?_; rintro e w2 ⟨rfl, rfl⟩))
        obtain ⟨w2, hw2⟩ : ∃ w2, (((((w1.alloc (Obj.cells #[Value.slice ao recs.length cap] 35)).alloc (Obj.cells #[Value.func (Fn.func 49) #[] #[Value.pointer (some ⟨w1.heap.size, 0, none⟩)]] 47)).alloc (Obj.cells #[] 51)).alloc
          (Obj.cells #[Value.slice (some ⟨w1.heap.size + 1 + 1, 0, none⟩) 0 0] 36)).alloc (Obj.cells #[Value.int IntKind.i64 0] 28)) = w2 := ⟨_, rfl⟩
        have hs2 : w2.heap.size = w1.heap.size + 5 := by rw [← hw2]; simp
        have hB12 : Below w1.heap.size w1 w2 := by rw [← hw2]; exact ((((ext_alloc w1 _).alloc (by simp) _).alloc (by simp; omega) _).alloc (by simp; omega) _).alloc (by simp; omega) _
        have c0 : w2.cell? ⟨w.heap.size, 0, none⟩ = some (.int .u8 K) := by rw [← hw2]; simp [go_sem, hc1, ↓IntWalk.iteOmega]
        have cr : w2.cell? ⟨w.heap.size + 1, 0, none⟩ = some (.bool false) := by rw [← hw2]; simp [go_sem, hc1, ↓IntWalk.iteOmega]
        have fr : w2.frozen? ⟨w.heap.size + 1, 0, none⟩ = false := by rw [← hw2]; simp [go_sem, hf1, ↓IntWalk.iteOmega]
        have c2 : w2.cell? ⟨w1.heap.size, 0, none⟩ = some (.slice ao recs.length cap) := by rw [← hw2]; simp [go_sem, ↓IntWalk.iteOmega]
        have c3 : w2.cell? ⟨w1.heap.size + 1, 0, none⟩ = some (.func (.func 49) #[] #[.pointer (some ⟨w1.heap.size, 0, none⟩)]) := by rw [← hw2]; simp [go_sem, ↓IntWalk.iteOmega]
        have hI0 : eachJ w1.heap.size (fun met _ => met.length ≤ K) [] (fun k => k = w1.heap.size + 2 ∨ k = w1.heap.size + 3 ∨ k = w1.heap.size + 4) w2 := by
          rw [← hw2]
          refine ⟨some ⟨w1.heap.size + 1 + 1, 0, none⟩, 0, some (w1.heap.size + 2), fun _ => False, [], 0, by simp, rfl, by simp [go_sem, ↓IntWalk.iteOmega], by simp [go_sem, ↓IntWalk.iteOmega], ⟨by simp [go_sem, ↓IntWalk.iteOmega], by simp [go_sem, ↓IntWalk.iteOmega]⟩, ⟨[], ?_, .nil⟩, fun k h => h.elim, (fun k h => by cases h; omega), by omega⟩
          exact ((Own.emptyAt _ 51 2 (w1.heap.size + 2) (by simp)).alloc _).alloc _
        have hBw1 : Below w.heap.size w w1 := ((ext_alloc w _).alloc (by simp) _).trans (HB1.out.mono (by simp; omega))
        have hBw2 : Below w.heap.size w w2 := hBw1.trans (hB12.mono (by omega))
        rw [hw2]
        have HI0 := Lib.hid hI0
        have C0 := Lib.hid c0
        have Cr := Lib.hid cr
        have Fr := Lib.hid fr
        have HB12 := Lib.hid hB12
        have Hrd2 := Lib.hid (Hrd.out.ext hBw2)
        have Hs2 := Lib.hid hs2
        have hs2' : w1.heap.size + 5 ≤ w2.heap.size := by omega
        have hs1' : w.heap.size + 2 ≤ w1.heap.size := by omega
        have HBw2 := Lib.hid hBw2
        have hE := rowElem
        have hpl := mtold_len recs (0, []) []
        have hrw := mtold_arcs recs (0, []) []
        simp only [List.length_nil, Nat.zero_add] at hrw
        have Hrw := Lib.hid hrw
        have Hpl := Lib.hid hpl
        clear hw2 hs2 hI0 hc1 hf1 c0 cr fr HB1 hBw1 hBw2 hB12 hrw hpl htl
        refine wpIn_rangeTB (gf := 44) (lb := #[.pointer (some ⟨w1.heap.size + 1, 0, none⟩)]) rfl (enters_of Try.func44 (by kernel_rfl) rfl) (hit _ w1.heap.size) (fun _ => rfl)
          (fun k => k = w1.heap.size + 2 ∨ k = w1.heap.size + 3 ∨ k = w1.heap.size + 4) (fun k h => by omega) (fun k h => by omega) (fun k h => h.elim)
          (fun pre fq W => eachJ w1.heap.size (fun met _ => met.length ≤ K) pre fq W) (fun c pre fq W => c = .exit 2 ∧ eachJ w1.heap.size (fun met bad => met.length = K + 1 ∧ bad = 0) pre fq W) (fun pre fq A B h hs => h.stays hs) (fun c pre fq A B h hs => ⟨h.1, h.2.stays hs⟩) (fun _ _ _ _ => trivial) ?hPre HI0.out
          [(44, fun x : EachM => .agg #[.int .u32 (x.1.1.1 : Nat), .slice x.2.1 x.1.1.2.length x.2.2]), (45, fun x => .int .i64 (x.1.2 : Nat)), (12, fun x => .int .i64 (x.1.2 : Nat))] 11 51 (fun x => #[.int .u32 (x.1.1.1 : Nat), .slice x.2.1 x.1.1.2.length x.2.2]) ?assign ?body ?done ?stop
        case hPre =>
          intro W hb
          have hsz := hb.size
          exact ⟨((bcell hb).1 _ 0 (by omega)).trans c3, ((bcell hb).1 _ 0 (by omega)).trans c2, Hrd2.out.ext hb, fun k h => by omega⟩
        case assign =>
          intro l x W K hK
          rw [show encM x = #[.agg #[.int .u32 (x.1.1.1 : Nat), .slice x.2.1 x.1.1.2.length x.2.2], .int .i64 (x.1.2 : Nat)] from rfl]
          gi_wp2
          exact hK
        case body =>
          rintro l0 pre fq tp x W Wy q hq' hl0 hr0 honly hok ⟨hxc, hxm, hxi, hxr⟩ ho0 hnl hflt htp ⟨ao', cap', g, fe, met, bad, h0, h1, h2, h3, h4, h5, h6, h7, h8⟩ hsz
          simp only [List.foldl_cons, List.foldl_nil, List.setIfInBounds_toArray, List.set_cons_zero, List.set_cons_succ]
          obtain ⟨⟨p, er⟩, ax, cx⟩ := x
          simp only at hxc hxm hxi hxr hq'
          obtain ⟨hn1, hn2⟩ := each_next hok
          have hb0 : bad = 0 := by
            rcases Nat.eq_zero_or_pos bad with h | h
            · exact h
            · have hm : (((0, []), bad) : RowD × Nat) ∈ pre.map (·.1) := by rw [h1]; unfold metBad; rw [if_neg (by omega)]; simp
              obtain ⟨y, hy, hy2⟩ := List.mem_map.1 hm
              have := hn1 y hy
              rw [hy2] at this
              exact this
          subst hb0
          have cK : W.cell? ⟨w.heap.size, 0, none⟩ = some (.int .u8 K) := (honly.cell (by omega) (by rintro (h | h) <;> first | omega | exact h) 0).trans C0.out
          have hqb := cell_of_row W q 0 _ _ _ hq'
          have hqb1 := cell_of_row W q 1 _ _ _ hq'
          simp only [List.getElem?_toArray, List.getElem?_cons_zero, List.getElem?_cons_succ] at hqb hqb1
          have hqn4 : q ≠ w1.heap.size + 1 + 1 + 1 + 1 := fun e => by rw [e, h3] at hqb; cases hqb
          dsimp only
          have f3 := h4.1
          have f4 := h4.2
          have q3 := h8.1
          have q4 := h8.2
          have hok1 := congrArg List.length h1
          have hmet : met.length ≤ recs.length + 1 := by
            have e1 := hok.length_le
            have e2 := toldRE_len recs (0, []) []
            simp [metBad] at e1 hok1
            omega
          have hor := hxr.only ho0 (fun b hb _ e => by have := (htp b hb).2.2.2; omega)
          have Hor := Lib.hid hor
          have H1 := Lib.hid h1
          have H5 := Lib.hid h5
          have H6 := Lib.hid h6
          have H7 := Lib.hid h7
          have Hflt := Lib.hid hflt
          have Htp := Lib.hid htp
          have Hsy := Lib.hid ho0.size
          have hKn : ((K : Nat) : Int) ≤ 255 := by omega
          clear hor hok hok1 h1 h4 h5 h6 h7 h8 hflt htp hq hr0 hl0 hnl ho0 honly hxr hit hn1 hq'
          by_cases he : er = 0
          · subst he
            obtain ⟨css, hown0, hall⟩ := H5.out
            have Hall := Lib.hid hall
            have hown : Own W ao' cap' g 51 2 met.length css.flatten := hown0
            have Hown := Lib.hid hown
            have hg3 : g ≠ some (w1.heap.size + 1 + 1 + 1) := fun e => by have := (H7.out _ e).2.2.1; omega
            have hg4 : g ≠ some (w1.heap.size + 1 + 1 + 1 + 1) := fun e => by have := (H7.out _ e).2.2.2; omega
            have hg0 : g ≠ some w.heap.size := fun e => by have := (H7.out _ e).2.1; omega
            have q3' := Hflt.out _ q3
            have q4' := Hflt.out _ q4
            have hw0 : w.heap.size < W.heap.size := by omega
            have Hg3 := Lib.hid hg3
            have Hg4 := Lib.hid hg4
            have Hg0 := Lib.hid hg0
            clear hall hown0 hown hn2 hg3 hg4 hg0
            by_cases hKm : K < met.length + 1
            · have hd2 : decide ((K : Int) < ((met.length + 1 : Nat) : Int)) = true := by simp; omega
              have hd3 : decide ((K : Int) < (met.length : Int) + 1) = true := by simp; omega
              gi_wp2_with ((gi_at_builtin; refine wpListIn_app rfl (.tmp 51) (.tmp 53) 36 36 rfl hE ((Hown.out.setCell (p := ⟨w1.heap.size + 1 + 1 + 1 + 1, 0, none⟩) (fun b hb e => Hg4.out (by rw [hb, e])) (.int .i64 0)).alloc _) rfl rfl (srcManyE Try.underlying36 (W.setCell ⟨w1.heap.size + 1 + 1 + 1 + 1, 0, none⟩ (.int .i64 0)) _ _ _ 2 W.heap.size (by simp) rfl (by simp [Value.oneCell'])) (by simp [maxLen]; omega) (by omega) ?_; intro ao3 cap3 g3 W3 ho3 hg3 hon3; have hon4 : Only (fun k => g = some k ∨ k = w1.heap.size + 4) W W3 := ((((Only.refl (fun k => g = some k ∨ k = w1.heap.size + 4) W).setCell (p := ⟨w1.heap.size + 1 + 1 + 1 + 1, 0, none⟩) (fun _ => .inr rfl) (.int .i64 0)).alloc _).trans hon3 (fun _ _ h => .inl h)); have e3 := (hon3.cell (b := w1.heap.size + 1 + 1 + 1) (by simp; omega) Hg3.out 0); have e4 := (hon3.cell (b := w1.heap.size + 1 + 1 + 1 + 1) (by simp; omega) Hg4.out 0); have e0 := (hon3.cell (b := w.heap.size) (by simp; omega) Hg0.out 0); have j3 := (hon4.frozen q3' (by rintro (h | h) <;> first | exact Hg3.out h | omega) 0).trans f3; have j4 := (hon3.frozen (b := w1.heap.size + 1 + 1 + 1 + 1) (by simp; omega) Hg4.out 0); simp [go_sem, ↓IntWalk.iteOmega, cell_set_ite, h2, h3, cK, f4] at e3 e4 e0 j4; have Ho3 := Lib.hid ho3; have Hg3' := Lib.hid hg3; have Hon4 := Lib.hid hon4; have E3 := Lib.hid e3; have E4 := Lib.hid e4; have J3 := Lib.hid j3; have J4 := Lib.hid j4; clear ho3 hg3 hon3 hon4 e4 j4))
              obtain ⟨fp', hf, hj⟩ := each_step (L := fun met bad => met.length = K + 1 ∧ bad = 0) Hall.out Hor.out hxc hxm hxi.1 q3 q4 H1.out H6.out H7.out Hflt.out (fun k hk => ⟨by have := (Htp.out k hk).1; omega, by have := (Htp.out k hk).2.1; have := Hsy.out; omega, (Htp.out k hk).2.2.1⟩) Ho3.out (fun k h => by rcases Hg3'.out with e | e <;> rw [e] at h <;> first | exact .inl h | (cases h; right; simp)) Hon4.out (by omega) (by rw [E3.out]; simp) E4.out J3.out J4.out (by simp; omega)
              exact ⟨fp', hf, rfl, hj⟩
            · have hd2 : decide ((K : Int) < ((met.length + 1 : Nat) : Int)) = false := by simp; omega
              have hd3 : decide ((K : Int) < (met.length : Int) + 1) = false := by simp; omega
              gi_wp2_with ((gi_at_builtin; refine wpListIn_app rfl (.tmp 51) (.tmp 53) 36 36 rfl hE ((Hown.out.setCell (p := ⟨w1.heap.size + 1 + 1 + 1 + 1, 0, none⟩) (fun b hb e => Hg4.out (by rw [hb, e])) (.int .i64 0)).alloc _) rfl rfl (srcManyE Try.underlying36 (W.setCell ⟨w1.heap.size + 1 + 1 + 1 + 1, 0, none⟩ (.int .i64 0)) _ _ _ 2 W.heap.size (by simp) rfl (by simp [Value.oneCell'])) (by simp [maxLen]; omega) (by omega) ?_; intro ao3 cap3 g3 W3 ho3 hg3 hon3; have hon4 : Only (fun k => g = some k ∨ k = w1.heap.size + 4) W W3 := ((((Only.refl (fun k => g = some k ∨ k = w1.heap.size + 4) W).setCell (p := ⟨w1.heap.size + 1 + 1 + 1 + 1, 0, none⟩) (fun _ => .inr rfl) (.int .i64 0)).alloc _).trans hon3 (fun _ _ h => .inl h)); have e3 := (hon3.cell (b := w1.heap.size + 1 + 1 + 1) (by simp; omega) Hg3.out 0); have e4 := (hon3.cell (b := w1.heap.size + 1 + 1 + 1 + 1) (by simp; omega) Hg4.out 0); have e0 := (hon3.cell (b := w.heap.size) (by simp; omega) Hg0.out 0); have j3 := (hon4.frozen q3' (by rintro (h | h) <;> first | exact Hg3.out h | omega) 0).trans f3; have j4 := (hon3.frozen (b := w1.heap.size + 1 + 1 + 1 + 1) (by simp; omega) Hg4.out 0); simp [go_sem, ↓IntWalk.iteOmega, cell_set_ite, h2, h3, cK, f4] at e3 e4 e0 j4; have Ho3 := Lib.hid ho3; have Hg3' := Lib.hid hg3; have Hon4 := Lib.hid hon4; have E3 := Lib.hid e3; have E4 := Lib.hid e4; have J3 := Lib.hid j3; have J4 := Lib.hid j4; clear ho3 hg3 hon3 hon4 e4 j4))
              exact each_step (L := fun met _ => met.length ≤ K) Hall.out Hor.out hxc hxm hxi.1 q3 q4 H1.out H6.out H7.out Hflt.out (fun k hk => ⟨by have := (Htp.out k hk).1; omega, by have := (Htp.out k hk).2.1; have := Hsy.out; omega, (Htp.out k hk).2.2.1⟩) Ho3.out (fun k h => by rcases Hg3'.out with e | e <;> rw [e] at h <;> first | exact .inl h | (cases h; right; simp)) Hon4.out (by omega) (by rw [E3.out]; simp) E4.out J3.out J4.out (by simp; omega)
          · have hd2 : ((er : Int) != 0) = true := by simp; omega
            have hd3 : ((er : Int) == 0) = false := by simp; omega
            obtain ⟨rfl⟩ : p = (0, []) := hn2 he
            have hKm : decide ((K : Int) < met.length) = false := by simp; omega
            gi_wp2_with fail
            have q3' := Hflt.out _ q3
            have q4' := Hflt.out _ q4
            refine ⟨fq, ⟨(Only.refl fq W).setCell (fun _ => q4) _, fun k hk => ⟨.inl hk, by simpa using Hflt.out k hk⟩⟩, ao', cap', g, fe, met, er, h0, ?_, ?_, ?_, ⟨?_, ?_⟩, ?_, H6.out, H7.out, q3, q4⟩
            · rw [List.map_append, H1.out]; simp [metBad, he]
            · simp [cell_set_ite, h2]
            · simp [cell_set_ite, h3]
            · simp [f3]
            · simp [f4]
            · refine H5.out.keep (fun b hb hl => Below.heap_setCell _ _ _ _ ?_) (by simp)
              rintro rfl
              rcases hb with h | h
              · have := (H6.out _ h).2.1; simp at this; omega
              · exact (H7.out _ h).2.2.2 rfl
        case done =>
          rintro D xs fq W hD hxs ⟨ao', cap', g, fe, met, bad, h0, h1, h2, h3, h4, h5, h6, h7, h8⟩ honly hfo hlt hnD hk
          have ht := met_all (h1.symm.trans hxs)
          have f0 := Lib.hid h4
          have hbW : Below w.heap.size w W := HBw2.out.trans (honly.below (by omega) (by rintro k hk (h | h) <;> first | omega | exact h))
          have cK : W.cell? ⟨w.heap.size, 0, none⟩ = some (.int .u8 K) := (honly.cell (by omega) (by rintro (h | h) <;> first | omega | exact h) 0).trans C0.out
          have cr : W.cell? ⟨w.heap.size + 1, 0, none⟩ = some (.bool false) := (honly.cell (by omega) (by rintro (h | h) <;> first | omega | exact h) 0).trans Cr.out
          have fr : W.frozen? ⟨w.heap.size + 1, 0, none⟩ = false := (honly.frozen (by omega) (by rintro (h | h) <;> first | omega | exact h) 0).trans Fr.out
          have hrdT := Hr1.out.only ((Only.of_below (fp := fun k => w1.heap.size ≤ k) HB12.out).trans honly (fun i hi h => h.elim (fun h => by omega) (fun h => h.elim))) (fun b hb hl h => Nat.not_lt.2 h hl)
          have hsW := honly.size
          have hDW : D < W.heap.size := (Array.getElem?_eq_some_iff.1 hk).1
          have hKn : ((K : Nat) : Int) ≤ 255 := by omega
          have hpl := Hpl.out
          have hrw := Hrw.out
          have q3l := hlt _ h8.1
          have q4l := hlt _ h8.2
          rw [ht] at hpl hrw hrdT ⊢
          have hS : ∀ W', Below W.heap.size W W' → Calls Try.prog 22 #[.slice ao' met.length cap', .slice a1 met.length c1] W' fun e w' => e = .returned (.bool true) ∧ Below W'.heap.size W' w' := fun W' hB => same14_any met ao' a1 cap' c1 _ _ W' (by omega) (fun p hp => by have := hrw p hp; omega) (h5.rd.ext hB) (hrdT.ext hB)
          have HS := Lib.hid hS
          have Hk := Lib.hid hk
          have HbW := Lib.hid hbW
          have H2 := Lib.hid h2
          have H3 := Lib.hid h3
          have Hcr := Lib.hid cr
          have Hfr := Lib.hid fr
          have hKd : decide ((K : Int) < met.length) = false := by simp; omega
          have hbb : ((bad : Int) == bad) = true := by simp
          clear h1 h4 h5 h6 h7 h8 honly hfo hlt hnD hk hit hq hrw hrdT hS ht hxs hbW
          have hqn : ∀ (fn : Fn) (a b : Array Value) (w : World), (binOp .neq 44 (.func fn a b) .nilFunc).run Try.prog w = .ok (.bool true) w := fun _ _ _ _ => by kernel_rfl
          dsimp only
          gi_wp2_with (gi_at_call 24; refine (callsIn_wide.2 (each14_nil _)).mono ?_; rintro e w3 ⟨rfl, rfl⟩)
          obtain ⟨w4, hw4⟩ : ∃ w4, (W.alloc (Obj.cells #[Value.int IntKind.i64 0] 3)).alloc (Obj.cells #[Value.nilFunc] 47) = w4 := ⟨_, rfl⟩
          have hB4 : Below W.heap.size W w4 := by rw [← hw4]; exact (ext_alloc W _).alloc (by simp) _
          have n4 : w4.cell? ⟨W.heap.size, 0, none⟩ = some (.int .i64 0) := by rw [← hw4]; simp [go_sem, ↓IntWalk.iteOmega]
          have k4 : w4.cell? ⟨W.heap.size + 1, 0, none⟩ = some .nilFunc := by rw [← hw4]; simp [go_sem, ↓IntWalk.iteOmega]
          have hs4 : w4.heap.size = W.heap.size + 2 := by rw [← hw4]; simp
          rw [hw4]
          have HB4 := Lib.hid hB4
          have N4 := Lib.hid n4
          have hs4' : W.heap.size + 2 ≤ w4.heap.size := by omega
          clear hw4 hB4 n4 hs4
          refine wpIn_rangeTS (gf := 44) (lb := #[.pointer (some ⟨W.heap.size + 1, 0, none⟩)]) rfl (enters_of Try.func44 (by kernel_rfl) rfl) (each14_nil_iter (W.heap.size + 1)) ?hps2
            (fun _ => False) (fun k h => h.elim) (fun k h => by omega) (fun k h => h.elim) (fun _ _ _ => True) (fun _ _ _ _ => False) (fun _ _ _ _ _ _ => trivial) (fun _ _ _ _ _ h _ => h.elim) (fun _ _ _ _ => trivial) (fun W' hb => ((bcell hb).1 _ 0 (by omega)).trans k4) trivial
            [(99, fun x : EachM => .agg #[.int .u32 (x.1.1.1 : Nat), .slice x.2.1 x.1.1.2.length x.2.2]), (100, fun x => .int .i64 (x.1.2 : Nat))] ?assign2 (fun _ _ _ _ _ _ _ _ _ _ _ hR => hR.elim) ?done2 (fun _ _ _ _ _ _ _ h => h.elim)
          case hps2 => exact fun _ => rfl
          case assign2 =>
            intro l x W K hK
            rw [show encM x = #[.agg #[.int .u32 (x.1.1.1 : Nat), .slice x.2.1 x.1.1.2.length x.2.2], .int .i64 (x.1.2 : Nat)] from rfl]
            gi_wp2
            exact hK
          case done2 =>
            rintro D2 _ _ W2 hD2 _ _ ho2 _ _ _ hk2
            have hB2 : Below w4.heap.size w4 W2 := ho2.below (Nat.le_refl _) (fun k hk h => h.elim id id)
            have hBW2 : Below W.heap.size W W2 := HB4.out.trans (hB2.mono (by omega))
            have m2 := ((bcell hBW2).1 (w1.heap.size + 1 + 1 + 1) 0 q3l).trans H2.out
            have b2 := ((bcell hBW2).1 (w1.heap.size + 1 + 1 + 1 + 1) 0 q4l).trans H3.out
            have r2 := ((bcell hBW2).1 (w.heap.size + 1) 0 (by omega)).trans Hcr.out
            have s2 := ((bcell hBW2).2 (w.heap.size + 1) 0 (by omega)).trans Hfr.out
            have n2 := ((bcell hB2).1 W.heap.size 0 (by omega)).trans N4.out
            have hz2 := hBW2.size
            have hD2W : D2 < W2.heap.size := (Array.getElem?_eq_some_iff.1 hk2).1
            have HBW2 := Lib.hid hBW2
            have Hk2 := Lib.hid hk2
            have hsz4 := hB2.size
            clear hB2 hBW2 hk2 ho2 k4
            dsimp only
            gi_wp2_with (first
              | (gi_at_call 22; refine (callsIn_wide.2 (HS.out _ HBW2.out)).mono ?_; rintro e w5 ⟨rfl, hB5⟩; obtain ⟨b5, g5⟩ := bext hB5; have hz5 := hB5.size; have HB5 := Lib.hid hB5; clear hB5)
              | (gi_at_call 14; refine (callsIn_wide.2 (awake14_any _)).mono ?_; rintro e w6 ⟨rfl, hB6⟩; obtain ⟨b6, g6⟩ := bext hB6; have hz6 := hB6.size; have HB6 := Lib.hid hB6; clear hB6))
            have hbw := HbW.out.size
            have hn1 : D ≠ w.heap.size + 1 := by omega
            have hn2 : D2 ≠ w.heap.size + 1 := by omega
            have hn3 : D ≠ D2 := by omega
            refine leaveM2 (v := .bool true) ?_ ?_ ?_ ⟨rfl, ?_⟩
            · rw [Below.heap_setCell _ _ _ _ (by simpa using hn2)]
              exact (HB6.out.block D2 (by omega)).trans ((HB5.out.block D2 hD2W).trans Hk2.out)
            · rw [World.putObj_heap_other hn3, Below.heap_setCell _ _ _ _ (by simpa using hn1)]
              exact (HB6.out.block D (by omega)).trans ((HB5.out.block D (by omega)).trans ((HBW2.out.block D hDW).trans Hk.out))
            · simp [results, Try.results5, go_sem, hn1.symm, hn2.symm, cell_set_ite, b6, b5, r2, ↓IntWalk.iteOmega]
            · exact ext_put (ext_put (((((HbW.out.trans (HBW2.out.mono hbw)).trans (HB5.out.mono (by omega))).trans (HB6.out.mono (by omega))).setCell (by simp) _)) (by omega)) (by omega)
        case stop =>
          rintro D c xs fq W hD hok ⟨rfl, ao', cap', g, fe, met, bad, ⟨h0, rfl⟩, h1, h2, h3, h4, h5, h6, h7, h8⟩ honly hfo hlt hnD hk
          rw [h1] at hok
          have hpre := met_some hok
          have f0 := Lib.hid h4
          have hbW : Below w.heap.size w W := HBw2.out.trans (honly.below (by omega) (by rintro k hk (h | h) <;> first | omega | exact h))
          have cK : W.cell? ⟨w.heap.size, 0, none⟩ = some (.int .u8 K) := (honly.cell (by omega) (by rintro (h | h) <;> first | omega | exact h) 0).trans C0.out
          have cr : W.cell? ⟨w.heap.size + 1, 0, none⟩ = some (.bool false) := (honly.cell (by omega) (by rintro (h | h) <;> first | omega | exact h) 0).trans Cr.out
          have fr : W.frozen? ⟨w.heap.size + 1, 0, none⟩ = false := (honly.frozen (by omega) (by rintro (h | h) <;> first | omega | exact h) 0).trans Fr.out
          have hrdT := Hr1.out.only ((Only.of_below (fp := fun k => w1.heap.size ≤ k) HB12.out).trans honly (fun i hi h => h.elim (fun h => by omega) (fun h => h.elim))) (fun b hb hl h => Nat.not_lt.2 h hl)
          have hsW := honly.size
          have hDW : D < W.heap.size := (Array.getElem?_eq_some_iff.1 hk).1
          have hKn : ((K : Nat) : Int) ≤ 255 := by omega
          have hpl := Hpl.out
          have hrw := Hrw.out
          have hle := hpre.length_le
          have htk := List.prefix_iff_eq_take.1 hpre
          rw [h0] at htk hle h2
          have hS : ∀ W', Below W.heap.size W W' → Calls Try.prog 22 #[.slice ao' (K + 1 : Nat) cap', .slice a1 (K + 1 : Nat) c1] W' fun e w' => e = .returned (.bool true) ∧ Below W'.heap.size W' w' := fun W' hB => by
            have hT := (hrdT.ext hB).take (K + 1)
            rw [← htk] at hT
            have := same14_any met ao' a1 cap' c1 _ _ W' (by omega) (fun p hp => by have := hrw p (hpre.subset hp); omega) (h5.rd.ext hB) hT
            rw [h0] at this
            exact this
          have HS := Lib.hid hS
          have Hk := Lib.hid hk
          have HbW := Lib.hid hbW
          have Hle := Lib.hid hle
          have hKd : decide ((K : Int) < ((K + 1 : Nat) : Int)) = true := by simp; omega
          have hKd2 : decide ((K : Int) < ((mtold (0, []) [] recs).1.length : Int)) = true := by simp; omega
          clear h0 h1 h4 h5 h6 h7 h8 honly hfo hlt hnD hk hit hq hrw hrdT hS hok hpre htk hbW
          have hc1 : ((K : Nat) : Int) + 1 ≤ (c1 : Int) := by omega
          rw [show ((0 : Nat) : Int) = 0 from rfl] at h3
          gi_wp2
          have hKd3 : decide (K < (mtold (0, []) [] recs).1.length) = true := by simp; omega
          have z1 : ¬ w1.heap.size + 1 + 1 = w.heap.size := by omega
          have z2 : ¬ w1.heap.size + 1 + 1 + 1 = w.heap.size := by omega
          have z3 : ¬ w1.heap.size + 1 + 1 + 1 = w.heap.size + 1 := by omega
          have z4 : ¬ w1.heap.size + 1 + 1 + 1 + 1 = w.heap.size + 1 := by omega
          have z5 : ¬ w.heap.size = w.heap.size + 1 := by omega
          have w1' : IntKind.i64.wrap ((K : Nat) : Int) = ((K : Nat) : Int) := IntWalk.i64_in _ (by omega)
          have w2' : IntKind.i64.wrap (((K : Nat) : Int) + 1) = ((K : Nat) : Int) + 1 := IntWalk.i64_in _ (by omega)
          have w3' : (0 : Int) ≤ ((K : Nat) : Int) + 1 := by omega
          have w4' : (((K : Nat) : Int) + 1).toNat = K + 1 := by omega
          refine wpIn_wide.2 ?_
          go_region_held3 (fun w' => w'.cell? ⟨w1.heap.size + 1 + 1 + 1, 0, none⟩ = some (.slice ao' (K + 1 : Nat) cap') ∧ w'.cell? ⟨w1.heap.size + 1 + 1 + 1 + 1, 0, none⟩ = some (.int .i64 0) ∧ w'.cell? ⟨w.heap.size, 0, none⟩ = some (.int .u8 K)) (first | exact ⟨x1, x2, x3⟩ | exact ⟨y1, y2, y3⟩ | exact ⟨((cell_set_ite _ _ _ _ _ _).trans (if_neg z3)).trans y1, ((cell_set_ite _ _ _ _ _ _).trans (if_neg z4)).trans y2, ((cell_set_ite _ _ _ _ _ _).trans (if_neg z5)).trans y3⟩ | go_keep)
            (first
            | (go_at_call 22; refine (HS.out _ (ext_drew W)).mono ?_; rintro e w3 ⟨rfl, hB3'⟩; have hB3 : Below W.heap.size W w3 := (ext_drew W).trans hB3'; have x1 := ((bcell hB3).1 (w1.heap.size + 1 + 1 + 1) 0 (by omega)).trans h2; have x2 := ((bcell hB3).1 (w1.heap.size + 1 + 1 + 1 + 1) 0 (by omega)).trans h3; have x3 := ((bcell hB3).1 w.heap.size 0 (by omega)).trans cK; have x4 := ((bcell hB3).1 (w.heap.size + 1) 0 (by omega)).trans cr; have x5 := ((bcell hB3).2 (w.heap.size + 1) 0 (by omega)).trans fr; have hz3 := hB3.size; have HB3 := Lib.hid hB3; clear hB3 hB3')
            | (go_at_call 14; refine (awake14_any _).mono ?_; rintro e w4 ⟨rfl, hB4⟩; have y1 := ((bcell hB4).1 (w1.heap.size + 1 + 1 + 1) 0 (by omega)).trans x1; have y2 := ((bcell hB4).1 (w1.heap.size + 1 + 1 + 1 + 1) 0 (by omega)).trans x2; have y3 := ((bcell hB4).1 w.heap.size 0 (by omega)).trans x3; have y4 := ((bcell hB4).1 (w.heap.size + 1) 0 (by omega)).trans x4; have y5 := ((bcell hB4).2 (w.heap.size + 1) 0 (by omega)).trans x5; have hz4 := hB4.size; have HB4 := Lib.hid hB4; clear hB4))
          clear w1' w2' w3' w4' z1 z2 z3 z4 z5 hKd hKd2 hKd3
          gi_wp2
          have hbw := HbW.out.size
          have hn1 : D ≠ w.heap.size + 1 := by omega
          refine leaveM1 (v := .bool true) ?_ ?_ ⟨rfl, ?_⟩
          · rw [Below.heap_setCell _ _ _ _ (by simpa using hn1)]
            exact (HB4.out.block D (by omega)).trans ((HB3.out.block D hDW).trans Hk.out)
          · simp [results, Try.results5, go_sem, hn1.symm, cell_set_ite, y4]
          · exact ext_put ((((HbW.out.trans (HB3.out.mono hbw)).trans (HB4.out.mono (by omega))).setCell (by simp) _)) (by omega)
end Go.Proofs.Ytafbjkbdfdeacaa
