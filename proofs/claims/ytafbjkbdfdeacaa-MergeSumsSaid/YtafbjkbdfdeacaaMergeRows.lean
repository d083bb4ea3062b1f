/- merge.Rows. -/
import Derived.Test.YtafbjkbdfdeacaaMergeEach
namespace Go.Proofs.Ytafbjkbdfdeacaa
set_option linter.unusedSimpArgs false
set_option linter.unusedVariables false
open Go.RowKit

set_option maxHeartbeats 400000 in
theorem each14_any (fn : Fn) (a b : Array Value) (w : World) :
    Calls Try.prog 24 #[.func fn a b] w fun e w' => e = .returned (.func (.func 44) #[] #[.pointer (some ⟨w.heap.size, 0, none⟩)]) ∧ w' = w.alloc (.cells #[.func fn a b] 47) := by
  have hmf : ∀ (fn : Fn) (first cap : Array Value) (w : World), (Instr.makeFunc fn first cap).run Try.prog w = .ok (.func fn first cap) w := fun _ _ _ _ => rfl
  go_enter Try.func24, Try.ntmps24
  go_wp2
  go_ret
  exact ⟨rfl, rfl⟩

def rowRep : Rep RowD := Rep.prod Rep.u32 (Rep.slice arcRep)
theorem rowRep_ok {W : World} {fp : Nat → Prop} {p : RowD} {ao : Option Addr} {cap : Nat} (h1 : p.2.length ≤ cap) (h2 : cap ≤ maxLen) (h3 : p.1 < 4294967296) (h4 : RdS arcRep fp W ao p.2) :
    rowRep.ok W fp p [.int .u32 (p.1 : Nat), .slice ao p.2.length cap] := ⟨[_], [_], rfl, ⟨rfl, h3⟩, ao, cap, rfl, h1, h2, h4⟩
theorem rowElem : Elem Try.prog 36 51 2 32 (.agg #[.int .u32 0, .slice none 0 0]) := Elem.mk' Try.underlying36 (by kernel_rfl) rfl (by decide)
/-- one new element of several cells, as the translation lays it ahead of an append -/
theorem srcMany {P : Program} {tx e' : TypeId} (hk : P.underlying tx = some (.slice e')) (w : World) (cs : List Value) (t : TypeId) (k size : Nat) (hs : cs.length = size) (h1 : ∀ u ∈ cs, u.oneCell' = true) :
    Src P size tx (.slice (some ⟨w.heap.size, 0, none⟩) 1 k) 1 cs (w.alloc (.cells cs.toArray t)) :=
  Src.ofSlice (w.alloc (.cells cs.toArray t)) hk ⟨w.heap.size, 0, none⟩ 1 k cs (by omega) (fun j u hu => by
    rw [Addr.add_lit, Nat.zero_add, World.cell?_alloc_new]
    simpa using hu) h1

/-- what a call that hands back rows and a number leaves -/
def RowsRet (r : List RowD × Nat) (w : World) (e : Ending) (w' : World) : Prop :=
  ∃ ao cap, e = .returned (.tuple #[.slice ao r.1.length cap, .int .i64 (r.2 : Nat)]) ∧ r.1.length ≤ cap ∧ cap ≤ maxLen ∧ RdS rowRep (fun k => w.heap.size ≤ k) w' ao r.1 ∧ Below w.heap.size w w'

def rowsI (s : Nat) (pre : List EachM) (fq : Nat → Prop) (W : World) : Prop :=
  ∃ (ao : Option Addr) (cap : Nat) (g : Option Nat) (fe : Nat → Prop), (∀ x ∈ pre, x.1.2 = 0) ∧ W.cell? ⟨s + 1 + 1, 0, none⟩ = some (.slice ao (pre.map (·.1.1)).length cap) ∧ W.cell? ⟨s, 0, none⟩ = some (.slice none 0 0) ∧ W.cell? ⟨s + 1, 0, none⟩ = some (.int .i64 0) ∧
    (∀ j, j < 3 → W.frozen? ⟨s + j, 0, none⟩ = false) ∧ OwnS rowRep fe W ao cap g 51 (pre.map (·.1.1)) ∧ (∀ k, fe k → fq k ∧ s + 5 ≤ k ∧ g ≠ some k) ∧ (∀ k, g = some k → fq k ∧ s + 5 ≤ k) ∧ (∀ j, j < 3 → fq (s + j))
def rowsX (s : Nat) (c : Code) (pre : List EachM) (fq : Nat → Prop) (W : World) : Prop :=
  c = .ret ∧ fq s ∧ fq (s + 1) ∧ ∃ q x, pre = q ++ [x] ∧ x.1.2 ≠ 0 ∧ W.cell? ⟨s, 0, none⟩ = some (.slice none 0 0) ∧ W.cell? ⟨s + 1, 0, none⟩ = some (.int .i64 (x.1.2 : Nat))

attribute [local go_sem] Oper.semAt_some

set_option maxRecDepth 100000 in
set_option maxHeartbeats 1600000 in
theorem rows_any (recs : List (List UInt8)) (ao : Option Addr) (cap : Nat) (w : World) (hl : recs.length ≤ 1073741824) (hrd : RdS (Rep.slice Rep.u8) (fun k => k < w.heap.size) w ao recs) :
    Calls Try.prog 20 #[.slice ao recs.length cap] w (RowsRet (rowsOf recs) w) := by
  have hE := rowElem
  have hit := fun eb b => each14_iter eb b recs ao cap (fun k => k < w.heap.size) hl
  have Hrd := Lib.hid hrd
  clear hrd
  refine (callsIn_wide (n := 0)).1 (callsIn_of_wp_marks Try.func20 rfl trivial ?_)
  simp only [Try.ntmps20, List.size_toArray, List.length_cons, List.length_nil, Nat.reduceAdd, Nat.reduceSub, Array.replicate_succ, Array.replicate_zero, List.push_toArray, List.append_toArray, List.nil_append, List.cons_append]
  gi_wp2_with (first
    | (gi_at_call 25; refine (callsIn_wide.2 (vals_any _ _ _ _)).mono ?_; rintro e w2 ⟨rfl, rfl⟩)
    | (gi_at_call 24; refine (callsIn_wide.2 (each14_any _ _ _ _)).mono ?_; rintro e w2 ⟨rfl, rfl⟩))
  obtain ⟨w1, hw1⟩ : ∃ w1, (((((w.alloc (Obj.cells #[Value.slice none 0 0] 36)).alloc (Obj.cells #[Value.int IntKind.i64 0] 28)).alloc (Obj.cells #[Value.slice none 0 0] 36)).alloc (Obj.cells #[Value.slice ao recs.length cap] 35)).alloc
      (Obj.cells #[Value.func (Fn.func 49) #[] #[Value.pointer (some ⟨w.heap.size + 1 + 1 + 1, 0, none⟩)]] 47)) = w1 := ⟨_, rfl⟩
  have hs1 : w1.heap.size = w.heap.size + 5 := by rw [← hw1]; simp
  have hB1 : Below w.heap.size w w1 := by rw [← hw1]; exact ((((ext_alloc w _).alloc (by simp) _).alloc (by simp; omega) _).alloc (by simp; omega) _).alloc (by simp; omega) _
  have c4 : w1.cell? ⟨w.heap.size + 1 + 1 + 1 + 1, 0, none⟩ = some (.func (.func 49) #[] #[.pointer (some ⟨w.heap.size + 1 + 1 + 1, 0, none⟩)]) := by rw [← hw1]; simp [go_sem, ↓IntWalk.iteOmega]
  have c3 : w1.cell? ⟨w.heap.size + 1 + 1 + 1, 0, none⟩ = some (.slice ao recs.length cap) := by rw [← hw1]; simp [go_sem, ↓IntWalk.iteOmega]
  have hI0 : rowsI w.heap.size [] (fun k => k = w.heap.size ∨ k = w.heap.size + 1 ∨ k = w.heap.size + 2) w1 := by
    rw [← hw1]
    refine ⟨none, 0, none, fun _ => False, by simp, by simp [go_sem, ↓IntWalk.iteOmega], by simp [go_sem, ↓IntWalk.iteOmega], by simp [go_sem, ↓IntWalk.iteOmega], fun j hj => ?_, OwnS.nil _ _ _ _, fun k h => h.elim, (fun k h => by cases h), fun j hj => by omega⟩
    simp only [go_sem]
    simp
    omega
  rw [hw1]
  have HB1 := Lib.hid hB1
  have HI0 := Lib.hid hI0
  have hs1' : w.heap.size + 5 ≤ w1.heap.size := by omega
  clear hw1 hs1 hB1 hI0
  refine wpIn_rangeTB (gf := 44) (lb := #[.pointer (some ⟨w.heap.size + 1 + 1 + 1 + 1, 0, none⟩)]) rfl (enters_of Try.func44 (by kernel_rfl) rfl) (hit _ (w.heap.size + 1 + 1 + 1)) (fun _ => rfl)
    (fun k => k = w.heap.size ∨ k = w.heap.size + 1 ∨ k = w.heap.size + 2) (fun k h => by omega) (fun k h => by omega) (fun k h => h.elim)
    (fun pre fq W => rowsI w.heap.size pre fq W) (fun c pre fq W => rowsX w.heap.size c pre fq W) ?hI ?hIx (fun _ _ _ _ => trivial) ?hPre HI0.out
    [(10, fun x : EachM => .agg #[.int .u32 (x.1.1.1 : Nat), .slice x.2.1 x.1.1.2.length x.2.2]), (11, fun x => .int .i64 (x.1.2 : Nat)), (6, fun x => .int .i64 (x.1.2 : Nat))] 5 51 (fun x => #[.int .u32 (x.1.1.1 : Nat), .slice x.2.1 x.1.1.2.length x.2.2]) ?assign ?body ?done ?stop
  case hI =>
    rintro pre fq A B ⟨ao', cap', g, fe, h0, h1, h2, h3, h4, h5, h6, h7, h8⟩ hs
    have e0 := h8 0 (by omega)
    have e1 := h8 1 (by omega)
    have e2 := h8 2 (by omega)
    exact ⟨ao', cap', g, fe, h0, (hs.cell e2 0).trans h1, (hs.cell e0 0).trans h2, (hs.cell e1 0).trans h3, fun j hj => (hs.frozen (h8 j hj) 0).trans (h4 j hj), h5.stays hs (fun b hb _ => hb.elim (fun h => (h6 b h).1) (fun h => (h7 b h).1)), h6, h7, h8⟩
  case hIx =>
    rintro c pre fq A B ⟨rfl, h1, h2, q, x, h3, h4, h5, h6⟩ hs
    exact ⟨rfl, h1, h2, q, x, h3, h4, (hs.cell h1 0).trans h5, (hs.cell h2 0).trans h6⟩
  case hPre =>
    intro W hb
    have hsz := hb.size
    exact ⟨((bcell hb).1 _ 0 (by omega)).trans c4, ((bcell hb).1 _ 0 (by omega)).trans c3, (Hrd.out.ext HB1.out).ext hb, fun k h => by omega⟩
  case assign =>
    intro l x W K hK
    rw [show encM x = #[.agg #[.int .u32 (x.1.1.1 : Nat), .slice x.2.1 x.1.1.2.length x.2.2], .int .i64 (x.1.2 : Nat)] from rfl]
    gi_wp2
    exact hK
  case body =>
    rintro l0 pre fq tp x W Wy q hq hl0 hr0 honly hok ⟨hxc, hxm, hxi, hxr⟩ ho0 hnl hflt htp ⟨ao', cap', g, fe, h0, h1, h2, h3, h4, h5, h6, h7, h8⟩ hsz
    simp only [List.foldl_cons, List.foldl_nil, List.setIfInBounds_toArray, List.set_cons_zero, List.set_cons_succ]
    obtain ⟨⟨p, er⟩, ax, cx⟩ := x
    simp only at hxc hxm hxi hxr hq
    have hpl : pre.length ≤ recs.length + 1 := by
      have h1 := hok.length_le
      have h2 := toldRE_len recs (0, []) []
      simp at h1; omega
    have hqb := cell_of_row W q 0 _ _ _ hq
    have hqb1 := cell_of_row W q 1 _ _ _ hq
    simp only [List.getElem?_toArray, List.getElem?_cons_zero, List.getElem?_cons_succ] at hqb hqb1
    dsimp only
    have f0 := h4 0 (by omega)
    have f1 := h4 1 (by omega)
    have f2 := h4 2 (by omega)
    rw [Nat.add_zero] at f0
    rw [show w.heap.size + 2 = w.heap.size + 1 + 1 from rfl] at f2
    have q0 := h8 0 (by omega)
    have q1 := h8 1 (by omega)
    have q2 := h8 2 (by omega)
    have hor := hxr.only ho0 (fun b hb _ e => by have := (htp b hb).2.2.2; omega)
    have Hor := Lib.hid hor
    have Hor0 := Lib.hid hok
    have H5 := Lib.hid h5
    have H6 := Lib.hid h6
    have H7 := Lib.hid h7
    have H8 := Lib.hid h8
    have H0 := Lib.hid h0
    have H4 := Lib.hid h4
    have Hflt := Lib.hid hflt
    have Htp := Lib.hid htp
    have Hsy := Lib.hid ho0.size
    have hpl2 : (pre.map (·.1.1)).length ≤ recs.length + 1 := by simpa using hpl
    clear hor hok h5 h6 h7 h8 h0 h4 hflt htp hq hr0 hl0 hnl ho0 honly hxr hit
    by_cases he : er = 0
    · subst he
      obtain ⟨css, hown0, hall⟩ := H5.out
      have Hall := Lib.hid hall
      have hown : Own W ao' cap' g 51 2 pre.length css.flatten := by rw [List.length_map] at hown0; exact hown0
      rw [List.length_map] at h1
      have hgO : ∀ j, j < 3 → g ≠ some (w.heap.size + j) := fun j hj e => by have := (H7.out _ e).2; omega
      have HgO := Lib.hid hgO
      have Hown := Lib.hid hown
      clear hall hown0 hgO hown
      gi_wp2_with (gi_at_builtin; refine wpListIn_app rfl (.tmp 15) (.tmp 17) 36 36 rfl hE (Hown.out.alloc _) rfl rfl (srcMany Try.underlying36 _ _ _ _ 2 rfl (by simp [Value.oneCell'])) (by simp [maxLen]; omega) (by omega) ?_; intro ao3 cap3 g3 W3 ho3 hg3 hon3; have hon4 : Only (fun k => g = some k) W W3 := ((Only.refl (fun k => g = some k) W).alloc _).trans hon3 (fun _ _ h => h); have e1 := (hon4.cell (Hflt.out _ q2) (HgO.out 2 (by omega)) 0).trans h1; have e2 := (hon4.frozen (Hflt.out _ q2) (HgO.out 2 (by omega)) 0).trans f2; have Ho3 := Lib.hid ho3; have Hg3 := Lib.hid hg3; have Hon4 := Lib.hid hon4; clear ho3 hg3 hon3 hon4)
      have hsz3 : W.heap.size ≤ W3.heap.size := Hon4.out.size
      have hg3' : ∀ k, g3 = some k → g = some k ∨ W.heap.size ≤ k := fun k h => by
        rcases Hg3.out with rfl | rfl
        · exact .inl h
        · cases h; right; simp
      have q0' := Hflt.out _ q0
      have q1' := Hflt.out _ q1
      have q2' := Hflt.out _ q2
      have hO : Only fq W (W3.setCell ⟨w.heap.size + 1 + 1, 0, none⟩ (.slice ao3 (pre.length + 1) cap3)) := (Hon4.out.mono (fun k _ hk => (H7.out k hk).1)).setCell (fun _ => q2) _
      have hfe : ∀ b, (fe b ∨ tp b) → b < W.heap.size ∧ g ≠ some b ∧ w.heap.size + 5 ≤ b := fun b hb => by
        rcases hb with h | h
        · exact ⟨Hflt.out b (H6.out b h).1, (H6.out b h).2.2, (H6.out b h).2.1⟩
        · exact ⟨by have := (Htp.out b h).2.1; have := Hsy.out; omega, fun e => (Htp.out b h).2.2.1 (H7.out b e).1, by have := (Htp.out b h).1; omega⟩
      have hS : OwnS rowRep (fun k => fe k ∨ tp k) W3 ao3 cap3 g3 51 (pre.map (·.1.1) ++ [p]) := by
        refine OwnS.snoc (w := W) (forall2_imp (fun x cs h => rowRep.mono h (fun b hb _ => .inl hb)) Hall.out) (cs := [.int .u32 (p.1 : Nat), .slice ax p.2.length cx]) (rowRep_ok hxc hxm hxi.1 ?_) (by rw [List.length_map]; exact Ho3.out) (fun b hb hl => Hon4.out.same b hl (hfe b hb).2.1) hsz3
        exact (Hor.out.only Hon4.out (fun b hb hl => (hfe b (.inr hb)).2.1)).mono (fun b hb _ => .inr hb)
      refine ⟨fun k => k = w.heap.size ∨ k = w.heap.size + 1 ∨ k = w.heap.size + 2 ∨ fe k ∨ tp k ∨ g3 = some k, ⟨hO, fun k hk => ?_⟩, ao3, cap3, g3, fun k => fe k ∨ tp k, ?_, ?_, ?_, ?_, ?_, ?_, fun k hk => ⟨by
        rcases hk with h | h
        · exact .inr (.inr (.inr (.inl h)))
        · exact .inr (.inr (.inr (.inr (.inl h)))), (hfe k hk).2.2, fun e => (hg3' k e).elim (hfe k hk).2.1 (fun h => by have := (hfe k hk).1; omega)⟩, fun k hk => ⟨by simp [hk], (hg3' k hk).elim (fun h => (H7.out k h).2) (fun h => by omega)⟩, fun j hj => by omega⟩
      · rw [World.size_setCell]
        rcases hk with rfl | rfl | rfl | h | h | h
        · exact ⟨.inl q0, by omega⟩
        · exact ⟨.inl q1, by omega⟩
        · exact ⟨.inl q2, by omega⟩
        · exact ⟨.inl (H6.out k h).1, by have := (hfe k (.inl h)).1; omega⟩
        · exact ⟨.inr (.inl h), by have := (hfe k (.inr h)).1; omega⟩
        · exact ⟨(hg3' k h).elim (fun h => .inl (H7.out k h).1) (fun h => .inr (.inr h)), Ho3.out.lt k h⟩
      · intro x hx
        rcases List.mem_append.1 hx with h | h
        · exact H0.out x h
        · rw [List.mem_singleton.1 h]
      · simp [cell_set_ite, e1]
      · simp only [cell_set_ite]
        rw [if_neg (by omega)]
        exact (Hon4.out.cell q0' (HgO.out 0 (by omega)) 0).trans h2
      · simp only [cell_set_ite]
        rw [if_neg (by omega)]
        exact (Hon4.out.cell q1' (HgO.out 1 (by omega)) 0).trans h3
      · intro j hj
        rw [World.frozen?_setCell, Hon4.out.frozen (Hflt.out _ (H8.out j hj)) (HgO.out j hj) 0]
        exact H4.out j hj
      · rw [List.map_append]
        refine hS.keep (fun b hb hl => Below.heap_setCell _ _ _ _ (fun e => ?_)) (by simp)
        simp only at e
        rcases hb with h | h
        · have := (hfe b h).2.2; omega
        · rcases hg3' b h with h | h
          · exact HgO.out 2 (by omega) (by rw [h, e])
          · omega
    · have hd : ((er : Int) != 0) = true := by simp; omega
      gi_wp2_with fail
      have q0' := Hflt.out _ q0
      have q1' := Hflt.out _ q1
      refine ⟨fq, ⟨((Only.refl fq W).setCell (fun _ => q0) _).setCell (fun _ => q1) _, fun k hk => ⟨.inl hk, by simpa using Hflt.out k hk⟩⟩, rfl, q0, q1, pre, ((p, er), ax, cx), rfl, he, ?_, ?_⟩
      · simp [cell_set_ite, h2]
      · simp [cell_set_ite, h3]
  case done =>
    rintro D xs fq W hD hxs ⟨ao', cap', g, fe, h0, h1, h2, h3, h4, h5, h6, h7, h8⟩ honly hfo hlt hnD hk
    have Hp := Lib.hid (toldRE_all hxs h0)
    have f0 := h4 0 (by omega)
    have f1 := h4 1 (by omega)
    rw [Nat.add_zero] at f0
    have hbW : Below w.heap.size w W := HB1.out.trans (honly.below (by omega) (by rintro k hk (h | h) <;> first | omega | exact h))
    have hrd := h5.rd
    have hcl := h5.capLe
    have hgl := h5.lt
    have hDW : D < W.heap.size := (Array.getElem?_eq_some_iff.1 hk).1
    have Hbw := Lib.hid hbW
    have Hrr := Lib.hid hrd
    have Hcl := Lib.hid hcl
    have H6 := Lib.hid h6
    have H7 := Lib.hid h7
    have Hnd := Lib.hid hnD
    have Hk := Lib.hid hk
    clear hbW hrd hcl h6 h7 hnD hk h5 h4 h0 hxs honly hfo hlt h8 hit
    dsimp only
    gi_wp2_with fail
    have hW1 := Hbw.out.size
    refine leaveM1 (v := .tuple #[.slice ao' (xs.map (·.1.1)).length cap', .int .i64 0]) ?_ ?_ ?_
    · rw [Below.heap_setCell _ _ _ _ (by simp; omega), Below.heap_setCell _ _ _ _ (by simp; omega)]; exact Hk.out
    · have n0 : w.heap.size ≠ D := by omega
      have n1 : w.heap.size + 1 ≠ D := by omega
      simp [results, Try.results20, go_sem, n0, n1, cell_set_ite, h2, h3]
    · rw [Hp.out]
      refine ⟨ao', cap', rfl, Hcl.out.1, Hcl.out.2, ?_, ?_⟩
      · refine (Hrr.out.keep (fun b hb hl => ?_) (by simp)).mono (fun b hb _ => by
          rcases hb with h | h
          · have := (H6.out b h).2.1; omega
          · have := (H7.out b h).2; omega)
        have hb5 : w.heap.size + 5 ≤ b ∧ b ≠ D := by
          rcases hb with h | h
          · exact ⟨(H6.out b h).2.1, fun e => Hnd.out (e ▸ (H6.out b h).1)⟩
          · exact ⟨(H7.out b h).2, fun e => Hnd.out (e ▸ (H7.out b h).1)⟩
        rw [World.putObj_heap_other hb5.2, Below.heap_setCell _ _ _ _ (by simp; omega), Below.heap_setCell _ _ _ _ (by simp; omega)]
      · exact ext_put ((Hbw.out.setCell (by simp) _).setCell (by simp) _) (by omega)
  case stop =>
    rintro D c xs fq W hD hok ⟨rfl, q0, q1, pre, x, rfl, he, h2, h3⟩ honly hfo hlt hnD hk
    have hp := toldRE_stop hok he
    have hbW : Below w.heap.size w W := HB1.out.trans (honly.below (by omega) (by rintro k hk (h | h) <;> first | omega | exact h))
    gi_wp2
    refine leaveM1 (v := .tuple #[.slice none 0 0, .int .i64 (x.1.2 : Nat)]) hk ?_ (by rw [hp]; exact ⟨none, 0, rfl, by simp, by simp [maxLen], .inl rfl, ext_put hbW (by omega)⟩)
    have n0 : w.heap.size ≠ D := by omega
    have n1 : w.heap.size + 1 ≠ D := by omega
    simp [results, Try.results20, go_sem, n0, n1, h2, h3]
end Go.Proofs.Ytafbjkbdfdeacaa
