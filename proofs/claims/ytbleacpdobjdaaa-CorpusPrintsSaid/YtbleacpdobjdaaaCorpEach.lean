/- The iterator behind corpus.Each. -/
import Derived.Test.YtbleacpdobjdaaaVals
import Derived.Test.YtbleacpdobjdaaaCorpPlain
import Derived.Test.YtbleacpdobjdaaaCorpBuild
import Derived.Test.YtbleacpdobjdaaaLaw
namespace Go.Proofs.Ytbleacpdobjdaaa
set_option linter.unusedSimpArgs false
set_option linter.unusedVariables false
open Go.RowKit

def u32Vals (l : List Nat) : List Value := l.map fun (v : Nat) => Value.int .u32 (v : Int)
def stId : Option PathD → Nat
  | none => 0
  | some p => p.1
def stAt : Option PathD → List Nat
  | none => []
  | some p => p.2
/-- the builder in its box B, its path's slice -/
structure BSt (W : World) (B : Nat) (st : Option PathD) (ao : Option Addr) (cap : Nat) (g : Option Nat) : Prop where
  c0 : W.cell? ⟨B, 0, none⟩ = some (.int .u32 (stId st))
  c1 : W.cell? ⟨B, 1, none⟩ = some (.slice ao (stAt st).length cap)
  c2 : W.cell? ⟨B, 2, none⟩ = some (.bool st.isSome)
  f : ∀ o, W.frozen? ⟨B, o, none⟩ = false
  own : Own W ao cap g 45 1 (stAt st).length (u32Vals (stAt st))
theorem BSt.stays {fp : Nat → Prop} {W W' : World} {B : Nat} {st : Option PathD} {ao : Option Addr} {cap : Nat} {g : Option Nat} (h : BSt W B st ao cap g) (hs : Stays fp W W') (hB : fp B) (hg : ∀ k, g = some k → fp k) : BSt W' B st ao cap g :=
  ⟨(hs.cell hB 0).trans h.c0, (hs.cell hB 1).trans h.c1, (hs.cell hB 2).trans h.c2, fun o => (hs.frozen hB o).trans (h.f o), h.own.stays hs hg⟩
theorem BSt.only {fp : Nat → Prop} {W W' : World} {B : Nat} {st : Option PathD} {ao : Option Addr} {cap : Nat} {g : Option Nat} (h : BSt W B st ao cap g) (hs : Only fp W W') (hB : ¬ fp B) (hg : ∀ k, g = some k → ¬ fp k) : BSt W' B st ao cap g :=
  h.stays (fp := fun k => k = B ∨ g = some k) (hs.stays (fun k hk => by
    rcases hk with rfl | hk
    · exact ⟨World.block_lt_of_cell? W _ h.c0, hB⟩
    · exact ⟨h.own.lt k hk, hg k hk⟩)) (.inl rfl) (fun k hk => .inr hk)
theorem rdS_u32 {w : World} {ao : Option Addr} {cap : Nat} {g : Option Nat} {e : TypeId} {l : List Nat} (h : Own w ao cap g e 1 l.length (u32Vals l)) (hl : ∀ v ∈ l, v < 4294967296) : RdS Rep.u32 (fun k => g = some k) w ao l := by
  rcases h.addr with ⟨_, _, h0, _⟩ | ⟨b, hg, ha, hb⟩
  · exact .inl (List.eq_nil_of_length_eq_zero h0)
  · subst ha
    refine .inr ⟨b, 0, rfl, hg, hb, fun j x hx => ⟨[.int .u32 x], ⟨rfl, hl x (List.mem_of_getElem? hx)⟩, fun i hi => ?_⟩⟩
    have hi0 : i = 0 := by simp [Rep.nat] at hi; exact hi
    subst hi0
    have hj := (List.getElem?_eq_some_iff.1 hx).1
    simp only [Rep.nat, Nat.mul_one, Nat.add_zero, Nat.zero_add]
    rw [h.cell j (by omega)]
    simp [u32Vals, hx]
theorem u32Elem : Elem Try.prog 62 45 1 4 (.int .u32 0) := Elem.mk' Try.underlying62 (by kernel_rfl) rfl (by decide)

/-- a path or an error, and the values by which it is told -/
abbrev EachV := (PathD × Nat) × (Option Addr × Nat)
def encV (x : EachV) : Array Value := #[.agg #[.int .u32 (x.1.1.1 : Nat), .slice x.2.1 x.1.1.2.length x.2.2], .int .i64 (x.1.2 : Nat)]
def toldAt (tp : Nat → Prop) (x : EachV) (W : World) : Prop :=
  x.1.1.2.length ≤ x.2.2 ∧ x.2.2 ≤ maxLen ∧ x.1.1.1 < 4294967296 ∧ RdS Rep.u32 tp W x.2.1 x.1.1.2

def eachI (recs : List (List UInt8)) (J : List EachV → (Nat → Prop) → World → Prop) (fp0 : Nat → Prop) (H0 B H1 : Nat) (pre : List RowV) (fq : Nat → Prop) (W : World) : Prop :=
  ∃ (T : List EachV) (fp1 : Nat → Prop) (st : Option PathD) (ao : Option Addr) (cap : Nat) (g : Option Nat),
    J T fp1 W ∧ (∀ rest, toldE none (pre.map (·.1) ++ rest) = T.map (·.1) ++ toldE st rest) ∧ BSt W B st ao cap g ∧ (∀ p, st = some p → okPath p) ∧ (stAt st).length ≤ pre.length ∧
    ¬ fp1 B ∧ (∀ k, g = some k → ¬ fp1 k ∧ H1 ≤ k) ∧ (∀ k, fp1 k → fp0 k ∨ H0 ≤ k) ∧ (∀ k, fq k ↔ (fp1 k ∨ k = B ∨ g = some k))
/-- how it is left: all told, or stopped -/
def eachX (recs : List (List UInt8)) (J Jx : List EachV → (Nat → Prop) → World → Prop) (fp0 : Nat → Prop) (H0 : Nat) (c : Code) (fq : Nat → Prop) (W : World) : Prop :=
  c = .ret ∧ ∃ (T : List EachV) (fp1 : Nat → Prop), ((T.map (·.1) = toldE none recs ∧ J T fp1 W) ∨ (T.map (·.1) <+: toldE none recs ∧ Jx T fp1 W)) ∧ (∀ k, fp1 k → fp0 k ∨ H0 ≤ k) ∧ (∀ k, fp1 k → fq k)

theorem goesB_on (st : Option PathD) (id step : Nat) : goesB st.isSome (stId st) (stAt st).length id step = goesOn st id step := by
  cases st <;> simp [goesB, goesOn, stId, stAt]
theorem beginsB_on (st : Option PathD) (id step : Nat) : beginsB st.isSome (stId st) id step = startsNew st id step := by
  cases st with
  | none => simp [beginsB, startsNew]
  | some p => rfl
theorem BSt.app {W2 W3 : World} {B v : Nat} {p : PathD} {ao ao3 : Option Addr} {cap cap3 : Nat} {g g3 : Option Nat} {o : Obj} (h : BSt W2 B (some p) ao cap g) (ho : Own W3 ao3 cap3 g3 45 1 (p.2.length + 1) (u32Vals p.2 ++ [.int .u32 (v : Int)]))
    (hon : Only (fun k => g = some k) (W2.alloc o) W3) (hgB : g ≠ some B) (hg3 : g3 ≠ some B) : BSt (W3.setCell ⟨B, 1, none⟩ (.slice ao3 (p.2.length + 1) cap3)) B (some (p.1, p.2 ++ [v])) ao3 cap3 g3 := by
  have hB2 : B < W2.heap.size := World.block_lt_of_cell? W2 _ h.c0
  have hon2 : Only (fun k => g = some k) W2 W3 := ((Only.refl (fun k => g = some k) W2).alloc o).trans hon (fun _ _ h => h)
  have hc := fun o => hon2.cell hB2 hgB o
  have hf := fun o => hon2.frozen hB2 hgB o
  refine ⟨?_, ?_, ?_, ?_, ?_⟩
  · rw [World.cell?_setCell_other _ _ _ _ (by simp), hc, h.c0]; rfl
  · have e := (hc 1).trans h.c1
    rw [World.cell?_setCell_same _ _ _ e]
    simp [stAt]
  · rw [World.cell?_setCell_other _ _ _ _ (by simp), hc, h.c2]; rfl
  · intro o'; rw [World.frozen?_setCell, hf, h.f]
  · have := ho.setCell (p := ⟨B, 1, none⟩) (fun b hb e => by subst e; exact hg3 hb) (.slice ao3 (p.2.length + 1) cap3)
    simpa [stAt, u32Vals] using this
theorem BSt.room {W2 W3 : World} {B : Nat} {st : Option PathD} {ao : Option Addr} {cap : Nat} {g : Option Nat} {o : Obj} (h : BSt W2 B st ao cap g) (hon : Only (fun k => g = some k) (W2.alloc o) W3) (hgB : g ≠ some B) :
    W3.cell? ⟨B, 1, none⟩ = some (.slice ao (stAt st).length cap) ∧ W3.frozen? ⟨B, 1, none⟩ = false := by
  have hB2 : B < W2.heap.size := World.block_lt_of_cell? W2 _ h.c0
  have hon2 : Only (fun k => g = some k) W2 W3 := ((Only.refl (fun k => g = some k) W2).alloc o).trans hon (fun _ _ h => h)
  exact ⟨(hon2.cell hB2 hgB 1).trans h.c1, (hon2.frozen hB2 hgB 1).trans (h.f 1)⟩
theorem BSt.fresh {W3 : World} {B v id : Nat} {st : Option PathD} {ao : Option Addr} {cap : Nat} {g : Option Nat} (h : BSt W3 B st ao cap g) :
    BSt ((((W3.setCell ⟨B, 0, none⟩ (.int .u32 (id : Int))).setCell ⟨B, 1, none⟩ (.slice (some ⟨W3.heap.size, 0, none⟩) 1 1)).setCell ⟨B, 2, none⟩ (.bool true)).alloc (.cells #[.int .u32 (v : Int)] 45)) B (some (id, [v])) (some ⟨W3.heap.size, 0, none⟩) 1 (some W3.heap.size) := by
  have hB : B < W3.heap.size := World.block_lt_of_cell? W3 _ h.c0
  have hne : B ≠ W3.heap.size := by omega
  obtain ⟨W4, hW4⟩ : ∃ W4, ((W3.setCell ⟨B, 0, none⟩ (.int .u32 (id : Int))).setCell ⟨B, 1, none⟩ (.slice (some ⟨W3.heap.size, 0, none⟩) 1 1)).setCell ⟨B, 2, none⟩ (.bool true) = W4 := ⟨_, rfl⟩
  have hs4 : W4.heap.size = W3.heap.size := by rw [← hW4]; simp
  have h0 : W4.cell? ⟨B, 0, none⟩ = some (.int .u32 (id : Int)) := by rw [← hW4]; simp [cell_set_ite, h.c0]
  have h1 : W4.cell? ⟨B, 1, none⟩ = some (.slice (some ⟨W3.heap.size, 0, none⟩) 1 1) := by rw [← hW4]; simp [cell_set_ite, h.c1]
  have h2 : W4.cell? ⟨B, 2, none⟩ = some (.bool true) := by rw [← hW4]; simp [cell_set_ite, h.c2]
  have hf : ∀ o, W4.frozen? ⟨B, o, none⟩ = false := fun o => by rw [← hW4]; simp [h.f]
  rw [hW4, ← hs4]
  rw [← hs4] at hne
  refine ⟨?_, ?_, ?_, ?_, ?_⟩
  · simp [cell_alloc_ite, hne, h0, stId]
  · simp [cell_alloc_ite, hne, h1, stAt, hs4]; omega
  · simp [cell_alloc_ite, hne, h2]
  · intro o'; simp [frozen_alloc_ite, hne, hf]
  · exact ⟨rfl, .inr ⟨W4.heap.size, _, rfl, rfl, heap_alloc_new W4 _, by simp [stAt], by simp [maxLen], rfl, rfl⟩⟩
theorem each_ret {recs : List (List UInt8)} {J Jx : List EachV → (Nat → Prop) → World → Prop} {fp0 fp1 fp2 fq tp tpy : Nat → Prop} {H0 B : Nat} {W W2 : World} {T : List EachV} {e : Ending} (hf1 : ∀ k, fp1 k → fq k) (hft : ∀ k, tpy k → fq k ∧ H0 ≤ k)
    (hn : ∀ k, fp1 k → fp0 k ∨ H0 ≤ k) (hH : H0 ≤ W.heap.size) (hfw : FwdT fp1 tpy fp2 W W2) (hor : (e = .returned (.bool true) ∧ J T fp2 W2) ∨ (e = .returned (.bool false) ∧ Jx T fp2 W2)) (hT : T.map (·.1) = toldE none recs) :
    ∃ fp', FwdT fq tp fp' W W2 ∧ eachX recs J Jx fp0 H0 .ret fp' W2 := by
  refine ⟨fp2, ⟨hfw.only.mono (fun k _ hk => hf1 k hk), fun k hk => ⟨?_, (hfw.own k hk).2⟩⟩, rfl, T, fp2, ?_, fun k hk => ?_, fun k hk => hk⟩
  · rcases (hfw.own k hk).1 with h | h | h
    · exact .inl (hf1 k h)
    · exact .inl (hft k h).1
    · exact .inr (.inr h)
  · rcases hor with ⟨_, h⟩ | ⟨_, h⟩
    · exact .inl ⟨hT, h⟩
    · exact .inr ⟨by rw [hT]; exact List.prefix_refl _, h⟩
  · rcases (hfw.own k hk).1 with h | h | h
    · exact hn k h
    · exact .inr (hft k h).2
    · exact .inr (by omega)
theorem each_ret' {recs : List (List UInt8)} {J Jx : List EachV → (Nat → Prop) → World → Prop} {fp0 fp1 fp2 fq tp tpy : Nat → Prop} {H0 B : Nat} {W W2 : World} {T : List EachV} (hf1 : ∀ k, fp1 k → fq k) (hft : ∀ k, tpy k → fq k ∧ H0 ≤ k)
    (hn : ∀ k, fp1 k → fp0 k ∨ H0 ≤ k) (hH : H0 ≤ W.heap.size) (hfw : FwdT fp1 tpy fp2 W W2) (hjx : Jx T fp2 W2) (hT : T.map (·.1) <+: toldE none recs) :
    ∃ fp', FwdT fq tp fp' W W2 ∧ eachX recs J Jx fp0 H0 .ret fp' W2 := by
  refine ⟨fp2, ⟨hfw.only.mono (fun k _ hk => hf1 k hk), fun k hk => ⟨?_, (hfw.own k hk).2⟩⟩, rfl, T, fp2, .inr ⟨hT, hjx⟩, fun k hk => ?_, fun k hk => hk⟩
  · rcases (hfw.own k hk).1 with h | h | h
    · exact .inl (hf1 k h)
    · exact .inl (hft k h).1
    · exact .inr (.inr h)
  · rcases (hfw.own k hk).1 with h | h | h
    · exact hn k h
    · exact .inr (hft k h).2
    · exact .inr (by omega)

attribute [local go_sem] Oper.semAt_some

set_option maxRecDepth 100000 in
set_option maxHeartbeats 1600000 in
theorem each28_iter (eb b : Nat) (recs : List (List UInt8)) (ao : Option Addr) (cap : Nat) (rfp : Nat → Prop) (hl : recs.length ≤ 1073741824) :
    IterT Try.prog 48 #[.pointer (some ⟨eb, 0, none⟩)] encV (fun pre => pre.map (·.1) <+: toldE none recs) (fun xs => xs.map (·.1) = toldE none recs) (fun _ => True)
      (fun pre x tp W => toldAt tp x W)
      (fun W => W.cell? ⟨eb, 0, none⟩ = some (.func (.func 52) #[] #[.pointer (some ⟨b, 0, none⟩)]) ∧ W.cell? ⟨b, 0, none⟩ = some (.slice ao recs.length cap) ∧ RdS (Rep.slice Rep.u8) rfp W ao recs ∧ ∀ k, rfp k → k < W.heap.size)
      (fun k => k = eb ∨ k = b ∨ rfp k) (fun _ => False) := by
  rintro ly J Jx fp w ⟨hce, hcb, hrd, hrl⟩ hfp hJ hJx _ hY h0
  have hE := u32Elem
  have hq : ∀ (fn : Fn) (a b : Array Value) (w : World), (binOp .eql 60 (.func fn a b) .nilFunc).run Try.prog w = .ok (.bool false) w := fun _ _ _ _ => by kernel_rfl
  have heb : eb < w.heap.size := World.block_lt_of_cell? w _ hce
  have hbb : b < w.heap.size := World.block_lt_of_cell? w _ hcb
  have HJ := Lib.hid hJ
  have HJx := Lib.hid hJx
  have HY := Lib.hid hY
  have Hfp := Lib.hid hfp
  have Hcb := Lib.hid hcb
  have Hrd := Lib.hid hrd
  have Hrl := Lib.hid hrl
  have H0 := Lib.hid h0
  clear hJ hJx hY hfp hcb hrd hrl h0
  refine callsIn_of_wp_marks Try.func48 rfl trivial ?_
  simp only [Try.ntmps48, List.size_toArray, List.length_cons, List.length_nil, Nat.reduceAdd, Nat.reduceSub, Array.replicate_succ, Array.replicate_zero, List.push_toArray, List.append_toArray, List.nil_append, List.cons_append]
  gi_wp2_with fail
  obtain ⟨w1, hw1⟩ : ∃ w1, (w.alloc (Obj.cells #[Value.func (Fn.yield ly) #[] #[]] 90)).alloc (Obj.cells #[Value.int IntKind.u32 0, Value.slice none 0 0, Value.bool false] 92) = w1 := ⟨_, rfl⟩
  have y0 : w1.cell? ⟨w.heap.size, 0, none⟩ = some (.func (.yield ly) #[] #[]) := by rw [← hw1]; simp [go_sem, ↓IntWalk.iteOmega]
  have hb0 : BSt w1 (w.heap.size + 1) none none 0 none := by
    rw [← hw1]
    exact ⟨by simp [go_sem, ↓IntWalk.iteOmega, stId], by simp [go_sem, ↓IntWalk.iteOmega, stAt], by simp [go_sem, ↓IntWalk.iteOmega], fun o => by simp [go_sem, ↓IntWalk.iteOmega], Own.nil _ _ _⟩
  have hs1 : w1.heap.size = w.heap.size + 2 := by rw [← hw1]; simp
  have hB1 : Below w.heap.size w w1 := by rw [← hw1]; exact (ext_alloc w _).alloc (by simp) _
  rw [hw1]
  have Y0 := Lib.hid y0
  have Hb0 := Lib.hid hb0
  have HB1 := Lib.hid hB1
  have Hs1 := Lib.hid hs1
  have hs1' : w.heap.size + 2 ≤ w1.heap.size := by omega
  clear hw1 y0 hb0 hB1 hs1
  have HV := vals_iter b recs ao cap rfp hl
  refine wpIn_rangeTS (gf := 52) (lb := #[.pointer (some ⟨b, 0, none⟩)]) rfl (enters_of Try.func52 (by kernel_rfl) rfl) HV.toT (fun _ => rfl)
    (fun k => fp k ∨ k = w.heap.size + 1) ?hfp ?hrs (fun k h => h.elim)
    (fun pre fq W => eachI recs J fp w.heap.size (w.heap.size + 1) w1.heap.size pre fq W) (fun c pre fq W => eachX recs J Jx fp w.heap.size c fq W) ?hI ?hIx (fun _ _ _ _ => trivial) ?hPre ?h0
    [(11, fun x : RowV => x.2), (4, fun x : RowV => x.2)] ?assign ?body ?done ?stop
  case hfp =>
    rintro k (h | rfl)
    · exact ⟨by have := (Hfp.out k h).1; omega, fun hr => (Hfp.out k h).2 (.inr hr)⟩
    · refine ⟨by omega, fun hr => ?_⟩
      rcases hr with hr | hr
      · omega
      · have := Hrl.out _ hr; omega
  case hrs =>
    rintro k (rfl | h)
    · omega
    · have := Hrl.out _ h; omega
  case hI =>
    rintro pre fq A B ⟨T, fp1, st, ao, cap, g, hj, ht, hb, hok, hlen, hn1, hn2, hn3, hf⟩ hs
    exact ⟨T, fp1, st, ao, cap, g, HJ.out _ _ _ _ hj (hs.mono fun k hk => (hf k).2 (.inl hk)), ht, hb.stays hs ((hf _).2 (.inr (.inl rfl))) (fun k hk => (hf k).2 (.inr (.inr hk))), hok, hlen, hn1, hn2, hn3, hf⟩
  case hIx =>
    rintro c pre fq A B ⟨rfl, T, fp1, hj, hn, hf⟩ hs
    have hs' : Stays fp1 A B := hs.mono fun k hk => hf k hk
    exact ⟨rfl, T, fp1, hj.imp (fun h => ⟨h.1, HJ.out _ _ _ _ h.2 hs'⟩) (fun h => ⟨h.1, HJx.out _ _ _ _ h.2 hs'⟩), hn, hf⟩
  case hPre =>
    intro W hb
    exact ⟨(hb.cell (p := ⟨b, 0, none⟩) (by show b < w1.heap.size; omega)).trans ((HB1.out.cell (p := ⟨b, 0, none⟩) hbb).trans Hcb.out), (Hrd.out.ext HB1.out).ext hb⟩
  case h0 =>
    refine ⟨[], fp, none, none, 0, none, J_ext HJ.out H0.out (fun k hk => (Hfp.out k hk).1) HB1.out, fun rest => by simp, Hb0.out, by simp, by simp [stAt], fun h => ?_, by simp, fun k hk => .inl hk, fun k => by simp⟩
    have := (Hfp.out _ h).1
    omega
  case assign =>
    intro l x W K hK
    gi_wp2
    exact hK
  case stop =>
    rintro D c xs fq W hD _ ⟨rfl, T, fp1, hj, hn, hf⟩ honly hfo hlt hnD hk
    gi_wp2
    have hs : Stays fp1 W (W.putObj D (.deferred none)) := ⟨rfl, rfl, rfl, by simp, fun k hk => World.putObj_heap_other (fun e => hnD (e ▸ hf k hk))⟩
    refine leaveM1 hk (results_none rfl _ _ _) (IterEnd.mk T fp1 ?_ (fun k hk => ⟨hn k hk, by simpa using hlt k (hf k hk)⟩) (hj.imp (fun h => ⟨h.1, HJ.out _ _ _ _ h.2 hs⟩) (fun h => ⟨h.1, HJx.out _ _ _ _ h.2 hs⟩)))
    refine ((Only.of_below (fp := fun k => fp k ∨ False) HB1.out).trans honly ?_).putObj _ (fun h => by omega)
    rintro i hi ((h | h) | h)
    · exact .inl h
    · omega
    · exact .inr h
  case body =>
    rintro l0 pre fq tp x W Wy hl0 hr0 honly hok ⟨htp, ⟨ra, rc, hx2, hrc1, hrc2, hrr⟩, hgk⟩ ho0 hnl hflt htp2 ⟨T, fp1, st, ao', cap', g, hj, ht, hb, hokp, hlen, hn1, hn2, hn3, hf⟩ hsz
    simp only [List.foldl_cons, List.foldl_nil, List.setIfInBounds_toArray, List.set_cons_zero, List.set_cons_succ]
    rw [hx2]
    obtain ⟨r, xv⟩ := x
    simp only at hx2 hrc1 hrr hgk hok
    subst hx2
    obtain ⟨rest, hrest⟩ := hok
    rw [List.map_append, List.append_assoc] at hrest
    have htr : ∀ l, recs = pre.map (·.1) ++ r :: l → toldE none recs = T.map (·.1) ++ toldE st (r :: l) := fun l h => by rw [h]; exact ht _
    have htold := htr rest (by rw [← hrest]; rfl)
    have hB1s := HB1.out.size
    have hy0 : W.cell? ⟨w.heap.size, 0, none⟩ = some (.func (.yield ly) #[] #[]) := (honly.cell (by omega) (by
      rintro ((h | h) | h)
      · have := (Hfp.out _ h).1; omega
      · omega
      · exact h) 0).trans Y0.out
    have hon : Only (fun k => fp k ∨ False) w W := (Only.of_below (fp := fun k => fp k ∨ False) HB1.out).trans honly (by
      rintro i hi ((h | h) | h)
      · exact .inl h
      · omega
      · exact .inr h)
    have hrdl : Rd W ra r.length (byteVals r) := (hrr.only ho0 (fun k hk _ e => by have := Hrl.out k hk; omega)).rdU8
    have hfp1 : ∀ k, fp1 k → k < W.heap.size := fun k hk => hflt k ((hf k).2 (.inl hk))
    have hf1q : ∀ k, fp1 k → fq k := fun k hk => (hf k).2 (.inl hk)
    have hprel : pre.length < 1073741824 := by
      have := congrArg List.length hrest
      simp at this; omega
    have HF := Lib.hid hf
    have HT := Lib.hid ht
    have HTo := Lib.hid htold
    have Hj := Lib.hid hj
    have Hb := Lib.hid hb
    have Hokp := Lib.hid hokp
    have Hn2 := Lib.hid hn2
    have Hn3 := Lib.hid hn3
    have Hon := Lib.hid hon
    have Hrest := Lib.hid hrest
    have Hfp1 := Lib.hid hfp1
    have Hf1q := Lib.hid hf1q
    have Hflt := Lib.hid hflt
    have hWs : w1.heap.size ≤ W.heap.size := honly.size
    clear hf ht htold hj hb hokp hn2 hn3 hon hrest htr htp htp2 hgk ho0 honly hrr hrc2 hfp1 hf1q hflt HV hr0 hl0 hnl
    by_cases h12 : r.length = 12
    · have hkk := (key3_keyOf r h12).2
      have hPc := piece_any r ra rc
      have htg := toldE_goes st r rest h12
      have htn := toldE_new st r rest h12
      have hts := toldE_state st r rest h12
      have hstk : ∀ p, keyOf r = p → goesOn st (keyOf r).1 (keyOf r).2.1 = goesOn st p.1 p.2.1 := fun p h => by rw [h]
      clear hstk
      obtain ⟨⟨id, step, v⟩, hk⟩ : ∃ x, keyOf r = x := ⟨_, rfl⟩
      have htA : ∀ l, goesOn st id step = true → toldE st (r :: l) = toldE (addTo st id v) l := fun l h => by
        have := toldE_goes st r l h12; rw [hk] at this; exact this h
      have htB : ∀ l, goesOn st id step = false → startsNew st id step = true → toldE st (r :: l) = (flushP st).map (fun p => (p, 0)) ++ toldE (some (id, [v])) l := fun l h h' => by
        have := toldE_new st r l h12; rw [hk] at this; exact this h h'
      rw [hk] at hkk hPc hts
      simp only at hkk hPc hts
      obtain ⟨hid, hstep, hv⟩ := hkk
      clear htg htn hk
      have hd : ((r.length : Int) != 12) = false := by simp; omega
      have hG := fun (W' : World) h0 h1 h2 => goes_any st.isSome (stId st) (stAt st).length id step (w.heap.size + 1) ao' cap' W' hid (by
        cases hs : st with
        | none => simp [stId]
        | some p => exact (Hokp.out p hs).1) hstep (by omega) h0 h1 h2
      have hBg := fun (W' : World) h0 h2 => begins_any st.isSome (stId st) id step (w.heap.size + 1) W' hid (by
        cases hs : st with
        | none => simp [stId]
        | some p => exact (Hokp.out p hs).1) hstep h0 h2
      simp only [goesB_on] at hG
      simp only [beginsB_on] at hBg
      have hPc' := hPc W h12 hrdl
      have HtA := Lib.hid htA
      have HtB := Lib.hid htB
      have Hts := Lib.hid hts
      have H12 := Lib.hid h12
      clear hPc htA htB hts hrdl h12
      by_cases hgo : goesOn st id step = true
      · rw [hgo] at hG
        obtain ⟨p, rfl⟩ : ∃ p, st = some p := by
          cases st with
          | none => simp [goesOn] at hgo
          | some p => exact ⟨p, rfl⟩
        have HG := Lib.hid hG
        have Hgo := Lib.hid hgo
        have HPc := Lib.hid hPc'
        have hgB : g ≠ some (w.heap.size + 1) := fun e => by have := (Hn2.out _ e).2; omega
        have HgB := Lib.hid hgB
        clear hG hBg hgo hPc' hgB
        gi_wp2_with (first
          | (gi_at_call 49; refine (CallsIn.inRound l0 (callsIn_wide.2 HPc.out)).mono ?_; rintro e W2 ⟨rfl, hB2⟩; have hb2 := Hb.out.only (Only.of_below (fp := fun _ => False) hB2) (fun h => h) (fun _ _ h => h); have d1 := hb2.c1; have d0 := hb2.f; have Hb2 := Lib.hid hb2; clear hb2)
          | (gi_at_call 50; refine (CallsIn.inRound l0 (callsIn_wide.2 (HG.out W2 Hb2.out.c0 Hb2.out.c1 Hb2.out.c2))).mono ?_; rintro e w' ⟨rfl, rfl⟩)
          | (gi_at_builtin; refine wpListIn_app rfl (.tmp 33) (.tmp 35) 62 62 rfl hE (Hb2.out.own.alloc _) rfl rfl (srcOne Try.underlying62 _ _ _ _ rfl) (by simp [maxLen]; omega) (by omega) ?_; intro ao3 cap3 g3 W3 ho3 hg3 hon3; have er := Hb2.out.room hon3 HgB.out; obtain ⟨e1, e2⟩ := er; have HB2 := Lib.hid hB2; have Ho3 := Lib.hid ho3; have Hg3 := Lib.hid hg3; have Hon3 := Lib.hid hon3; clear hB2 ho3 hg3 hon3))
        have hW2 : W.heap.size ≤ W2.heap.size := HB2.out.size
        have hWB : w.heap.size + 1 < W.heap.size := by omega
        have hO : Only (fun k => k = w.heap.size + 1 ∨ g = some k) W (W3.setCell ⟨w.heap.size + 1, 1, none⟩ (.slice ao3 ((stAt (some p)).length + 1) cap3)) :=
          (((Only.of_below (fp := fun k => k = w.heap.size + 1 ∨ g = some k) HB2.out).alloc _).trans Hon3.out (fun i _ h => .inr h)).setCell (fun _ => .inl rfl) _
        have hg3' : ∀ k, g3 = some k → g = some k ∨ W2.heap.size < k := fun k h => by
          rcases Hg3.out with rfl | rfl
          · exact .inl h
          · cases h; right; simp
        have hsz3 : W3.heap.size ≤ (W3.setCell ⟨w.heap.size + 1, 1, none⟩ (.slice ao3 ((stAt (some p)).length + 1) cap3)).heap.size := by simp
        refine ⟨fun k => fp1 k ∨ k = w.heap.size + 1 ∨ g3 = some k, ⟨hO.mono (fun k _ hk => (HF.out k).2 (hk.elim (fun h => .inr (.inl h)) (fun h => .inr (.inr h)))), fun k hk => ?_⟩,
          T, fp1, some (p.1, p.2 ++ [v]), ao3, cap3, g3, HJ.out _ _ _ _ Hj.out (hO.stays (fun k hk => ⟨Hfp1.out k hk, ?_⟩)), fun l => ?_, Hb2.out.app (by simpa [stAt, u32Vals] using Ho3.out) Hon3.out HgB.out ?_, ?_, ?_, hn1, fun k hk => ?_, Hn3.out, fun k => Iff.rfl⟩
        · rcases hk with hk | rfl | hk
          · exact ⟨.inl (Hf1q.out k hk), Nat.lt_of_lt_of_le (Hfp1.out k hk) hO.size⟩
          · exact ⟨.inl ((HF.out _).2 (.inr (.inl rfl))), Nat.lt_of_lt_of_le hWB hO.size⟩
          · refine ⟨?_, Nat.lt_of_lt_of_le (Ho3.out.lt k hk) hsz3⟩
            rcases hg3' k hk with h | h
            · exact .inl ((HF.out k).2 (.inr (.inr h)))
            · exact .inr (.inr (by omega))
        · rintro (rfl | h)
          · exact hn1 hk
          · exact (Hn2.out k h).1 hk
        · rw [List.map_append, List.append_assoc]
          show toldE none (pre.map (·.1) ++ (r :: l)) = _
          rw [HT.out, HtA.out l Hgo.out]; rfl
        · intro e
          rcases hg3' _ e with h | h
          · exact HgB.out h
          · omega
        · intro q hq
          simp only [Option.some.injEq] at hq
          subst hq
          refine ⟨(Hokp.out p rfl).1, fun x hx => ?_⟩
          rcases List.mem_append.1 hx with h | h
          · exact (Hokp.out p rfl).2 x h
          · rw [List.mem_singleton.1 h]; exact hv
        · simp [stAt] at hlen ⊢; omega
        · rcases hg3' k hk with h | h
          · exact Hn2.out k h
          · exact ⟨fun hf => by have := Hfp1.out k hf; omega, by omega⟩
      · have hgo' : goesOn st id step = false := by simpa using hgo
        rw [hgo'] at hG
        have HG := Lib.hid hG
        have Hgo := Lib.hid hgo'
        have HPc := Lib.hid hPc'
        have hgB : g ≠ some (w.heap.size + 1) := fun e => by have := (Hn2.out _ e).2; omega
        have HgB := Lib.hid hgB
        have Hy0 := Lib.hid hy0
        have hWY : w.heap.size < W.heap.size := by omega
        have hWB : w.heap.size + 1 < W.heap.size := by omega
        clear hG hgo hgo' hPc' hgB hy0
        by_cases hst : startsNew st id step = true
        · rw [hst] at hBg
          have HBg := Lib.hid hBg
          have Hst := Lib.hid hst
          clear hBg hst
          have hfin : ∀ (W3 : World) (fp2 : Nat → Prop) (T' : List EachV), BSt W3 (w.heap.size + 1) st ao' cap' g → J T' fp2 W3 → T'.map (·.1) = T.map (·.1) ++ (flushP st).map (fun p => (p, 0)) → Only (fun k => fq k) W W3 →
              (∀ k, fp2 k → (fp1 k ∨ g = some k ∨ W.heap.size ≤ k) ∧ k < W3.heap.size) → ¬ fp2 (w.heap.size + 1) →
              ∃ fp', FwdT fq tp fp' W ((((W3.setCell ⟨w.heap.size + 1, 0, none⟩ (.int .u32 (id : Int))).setCell ⟨w.heap.size + 1, 1, none⟩ (.slice (some ⟨W3.heap.size, 0, none⟩) 1 1)).setCell ⟨w.heap.size + 1, 2, none⟩ (.bool true)).alloc (.cells #[.int .u32 (v : Int)] 45)) ∧
                eachI recs J fp w.heap.size (w.heap.size + 1) w1.heap.size (pre ++ [(r, .slice ra r.length rc)]) fp' ((((W3.setCell ⟨w.heap.size + 1, 0, none⟩ (.int .u32 (id : Int))).setCell ⟨w.heap.size + 1, 1, none⟩ (.slice (some ⟨W3.heap.size, 0, none⟩) 1 1)).setCell ⟨w.heap.size + 1, 2, none⟩ (.bool true)).alloc (.cells #[.int .u32 (v : Int)] 45)) := by
            intro W3 fp2 T' hb3 hj3 hT3 ho3 hf2 hnB
            have hfB : fq (w.heap.size + 1) := (HF.out _).2 (.inr (.inl rfl))
            have hsz3 : W.heap.size ≤ W3.heap.size := ho3.size
            have hOa : Only (fun k => k = w.heap.size + 1) W3 ((((W3.setCell ⟨w.heap.size + 1, 0, none⟩ (.int .u32 (id : Int))).setCell ⟨w.heap.size + 1, 1, none⟩ (.slice (some ⟨W3.heap.size, 0, none⟩) 1 1)).setCell ⟨w.heap.size + 1, 2, none⟩ (.bool true)).alloc (.cells #[.int .u32 (v : Int)] 45)) :=
              (((((Only.refl (fun k => k = w.heap.size + 1) W3).setCell (fun _ => rfl) _).setCell (fun _ => rfl) _).setCell (fun _ => rfl) _).alloc _)
            refine ⟨fun k => fp2 k ∨ k = w.heap.size + 1 ∨ some W3.heap.size = some k, ⟨ho3.trans hOa (fun i _ h => by subst h; exact hfB), fun k hk => ?_⟩,
              T', fp2, some (id, [v]), some ⟨W3.heap.size, 0, none⟩, 1, some W3.heap.size, HJ.out _ _ _ _ hj3 (hOa.stays (fun k hk => ⟨(hf2 k hk).2, fun e => hnB (e ▸ hk)⟩)), fun l => ?_, hb3.fresh, ?_, ?_, hnB, fun k hk => ?_, fun k hk => ?_, fun k => Iff.rfl⟩
            · rcases hk with hk | rfl | hk
              · refine ⟨?_, Nat.lt_of_lt_of_le (hf2 k hk).2 hOa.size⟩
                rcases (hf2 k hk).1 with h | h | h
                · exact .inl (Hf1q.out k h)
                · exact .inl ((HF.out k).2 (.inr (.inr h)))
                · exact .inr (.inr h)
              · exact ⟨.inl hfB, by have := hOa.size; omega⟩
              · cases hk
                exact ⟨.inr (.inr hsz3), by simp⟩
            · rw [List.map_append, List.append_assoc]
              show toldE none (pre.map (·.1) ++ (r :: l)) = _
              rw [HT.out, HtB.out l Hgo.out Hst.out, hT3, List.append_assoc]
            · intro q hq
              simp only [Option.some.injEq] at hq
              subst hq
              exact ⟨hid, fun x hx => by rw [List.mem_singleton.1 hx]; exact hv⟩
            · simp [stAt]
            · cases hk
              exact ⟨fun hf => by have := (hf2 _ hf).2; omega, by omega⟩
            · rcases (hf2 k hk).1 with h | h | h
              · exact Hn3.out k h
              · have := (Hn2.out k h).2; right; omega
              · right; omega
          have Hfin := Lib.hid hfin
          clear hfin
          cases st with
          | none =>
            gi_wp2_with (first
              | (gi_at_call 49; refine (CallsIn.inRound l0 (callsIn_wide.2 HPc.out)).mono ?_; rintro e W2 ⟨rfl, hB2⟩; have hs2 := hB2.size; have hb2 := Hb.out.only (Only.of_below (fp := fun _ => False) hB2) (fun h => h) (fun _ _ h => h); have hy2 := (hB2.cell (p := ⟨w.heap.size, 0, none⟩) hWY).trans Hy0.out; have d1 := hb2.c1; have d0 := hb2.c0; have d2 := hb2.c2; have d3 := hb2.f; try simp only [stId, stAt, Option.isSome] at d0 d1 d2; have Hb2 := Lib.hid hb2; have HB2 := Lib.hid hB2; clear hb2 hB2)
              | (gi_at_call 50; refine (CallsIn.inRound l0 (callsIn_wide.2 (HG.out W2 Hb2.out.c0 Hb2.out.c1 Hb2.out.c2))).mono ?_; rintro e w' ⟨rfl, rfl⟩)
              | (gi_at_call 51; refine (CallsIn.inRound l0 (callsIn_wide.2 (HBg.out W2 Hb2.out.c0 Hb2.out.c2))).mono ?_; rintro e w' ⟨rfl, rfl⟩))
            exact Hfin.out W2 fp1 T Hb2.out (J_ext HJ.out Hj.out Hfp1.out HB2.out) (by simp [flushP]) (Only.of_below HB2.out) (fun k hk => ⟨.inl hk, Nat.lt_of_lt_of_le (Hfp1.out k hk) HB2.out.size⟩) hn1
          | some p =>
            have hT2 : (T ++ [((p, 0), (ao', cap'))] : List EachV).map (·.1) = T.map (·.1) ++ (flushP (some p)).map (fun p => (p, 0)) := by simp [flushP]
            have hT3 : (T ++ [((p, 0), (ao', cap'))] : List EachV).map (·.1) <+: toldE none recs := by
              rw [hT2, HTo.out, HtB.out rest Hgo.out Hst.out, ← List.append_assoc]; exact List.prefix_append _ _
            have HT2 := Lib.hid hT2
            have HT3 := Lib.hid hT3
            clear hT2 hT3
            have HYp := Lib.hid (fun W2 (hB2 : Below W.heap.size W W2) (hb2 : BSt W2 (w.heap.size + 1) (some p) ao' cap' g) => (@_root_.id (YieldAt Fence.wide 0 Try.prog ly #[.agg #[.int .u32 (p.1 : Nat), .slice ao' p.2.length cap'], .int .i64 0] W2 _) (HY.out T fp1 (fun k => g = some k) ((p, 0), (ao', cap')) W2 (J_ext HJ.out Hj.out Hfp1.out hB2)
              (fun k hk => Nat.lt_of_lt_of_le (Hfp1.out k hk) hB2.size) (fun k hk => ⟨by have := (Hn2.out k hk).2; omega, hb2.own.lt k hk, (Hn2.out k hk).1⟩) (Hon.out.ext hB2) (by rw [HT2.out]; have h3 := HT3.out; rw [HT2.out] at h3; exact h3)
              ⟨hb2.own.capLe.1, hb2.own.capLe.2, (Hokp.out p rfl).1, rdS_u32 hb2.own (Hokp.out p rfl).2⟩)))
            gi_wp2_with (first
              | (gi_at_call 49; refine (CallsIn.inRound l0 (callsIn_wide.2 HPc.out)).mono ?_; rintro e W2 ⟨rfl, hB2⟩; have hs2 := hB2.size; have hb2 := Hb.out.only (Only.of_below (fp := fun _ => False) hB2) (fun h => h) (fun _ _ h => h); have hy2 := (hB2.cell (p := ⟨w.heap.size, 0, none⟩) hWY).trans Hy0.out; have d1 := hb2.c1; have d0 := hb2.c0; have d2 := hb2.c2; have d3 := hb2.f; try simp only [stId, stAt, Option.isSome] at d0 d1 d2; have Hb2 := Lib.hid hb2; have HB2 := Lib.hid hB2; clear hb2 hB2)
              | (gi_at_call 50; refine (CallsIn.inRound l0 (callsIn_wide.2 (HG.out W2 Hb2.out.c0 Hb2.out.c1 Hb2.out.c2))).mono ?_; rintro e w' ⟨rfl, rfl⟩)
              | (gi_at_call 51; refine (CallsIn.inRound l0 (callsIn_wide.2 (HBg.out W2 Hb2.out.c0 Hb2.out.c2))).mono ?_; rintro e w' ⟨rfl, rfl⟩; obtain ⟨fn, tmps, assign, body, hy, hR⟩ := HYp.out W2 HB2.out Hb2.out; have HR := Lib.hid hR; clear hR))
            refine HR.out.mono ?_
            clear hy HR
            rintro e W3 ⟨fp2, hfw2, (⟨rfl, hj3⟩ | ⟨rfl, hjx3⟩)⟩
            · have hb3 := Hb2.out.only hfw2.only hn1 (fun k hk => (Hn2.out k hk).1)
              have hs3 := hfw2.only.size
              have d1 := hb3.c1
              have d0 := hb3.c0
              have d2 := hb3.c2
              have d3 := hb3.f
              have Hb3 := Lib.hid hb3
              have Hj3 := Lib.hid hj3
              have Hfw2 := Lib.hid hfw2
              clear hb3 hj3 hfw2
              gi_wp2_with fail
              exact Hfin.out W3 fp2 _ Hb3.out Hj3.out HT2.out ((Only.of_below HB2.out).trans (Hfw2.out.only.mono (fun k _ hk => Hf1q.out k hk)) (fun _ _ h => h))
                (fun k hk => ⟨(Hfw2.out.own k hk).1.elim .inl (fun h => .inr (h.imp (fun h => h) (fun h => by omega))), (Hfw2.out.own k hk).2⟩)
                (fun h => (Hfw2.out.own _ h).1.elim hn1 (fun h => h.elim HgB.out (fun h => by omega)))
            · have hfw3 : FwdT fp1 (fun k => g = some k) fp2 W W3 := ⟨(Only.of_below HB2.out).trans hfw2.only (fun _ _ h => h), fun k hk => ⟨(hfw2.own k hk).1.elim .inl (fun h => h.elim (fun h => .inr (.inl h)) (fun h => .inr (.inr (by omega)))), (hfw2.own k hk).2⟩⟩
              have Hend := Lib.hid (each_ret' (recs := recs) (Jx := Jx) (J := J) (fp0 := fp) (fq := fq) (tp := tp) (B := 0) Hf1q.out (fun k hk => ⟨(HF.out k).2 (.inr (.inr hk)), by have := (Hn2.out k hk).2; omega⟩) Hn3.out (by omega) hfw3 hjx3 HT3.out)
              clear hfw2 hfw3 hjx3
              gi_wp2_with fail
              exact Hend.out
        · have hst' : startsNew st id step = false := by simpa using hst
          rw [hst'] at hBg
          have HBg := Lib.hid hBg
          have hT2 : (T ++ [(((0, []), 13), (none, 0))] : List EachV).map (·.1) = toldE none recs := by
            rw [HTo.out, Hts.out Hgo.out hst', List.map_append]; rfl
          have HT2 := Lib.hid hT2
          have HY2 := Lib.hid (fun W2 (hB2 : Below W.heap.size W W2) => (@_root_.id (YieldAt Fence.wide 0 Try.prog ly #[.agg #[.int .u32 0, .slice none 0 0], .int .i64 13] W2 _) (HY.out T fp1 (fun _ => False) (((0, []), 13), (none, 0)) W2 (J_ext HJ.out Hj.out Hfp1.out hB2)
            (fun k hk => Nat.lt_of_lt_of_le (Hfp1.out k hk) hB2.size) (fun k hk => hk.elim) (Hon.out.ext hB2) (by rw [hT2]; exact List.prefix_refl _) ⟨by simp, by simp [maxLen], by show 0 < 4294967296; omega, .inl rfl⟩)))
          clear hBg hst hst' hT2
          gi_wp2_with (first
            | (gi_at_call 49; refine (CallsIn.inRound l0 (callsIn_wide.2 HPc.out)).mono ?_; rintro e W2 ⟨rfl, hB2⟩; have hs2 := hB2.size; have hb2 := Hb.out.only (Only.of_below (fp := fun _ => False) hB2) (fun h => h) (fun _ _ h => h); have hy2 := (hB2.cell (p := ⟨w.heap.size, 0, none⟩) hWY).trans Hy0.out; have d1 := hb2.c1; have d0 := hb2.c0; have d2 := hb2.c2; have d3 := hb2.f; try simp only [stId, stAt, Option.isSome] at d0 d1 d2; have Hb2 := Lib.hid hb2; have HB2 := Lib.hid hB2; clear hb2 hB2)
            | (gi_at_call 50; refine (CallsIn.inRound l0 (callsIn_wide.2 (HG.out W2 Hb2.out.c0 Hb2.out.c1 Hb2.out.c2))).mono ?_; rintro e w' ⟨rfl, rfl⟩)
            | (gi_at_call 51; refine (CallsIn.inRound l0 (callsIn_wide.2 (HBg.out W2 Hb2.out.c0 Hb2.out.c2))).mono ?_; rintro e w' ⟨rfl, rfl⟩; obtain ⟨fn, tmps, assign, body, hy, hR⟩ := HY2.out W2 HB2.out; have HR := Lib.hid hR; clear hR))
          refine HR.out.mono ?_
          clear hy HR
          rintro e W3 ⟨fp2, hfw2, hor⟩
          have hfw3 : FwdT fp1 (fun _ => False) fp2 W W3 := ⟨(Only.of_below HB2.out).trans hfw2.only (fun _ _ h => h), fun k hk => ⟨(hfw2.own k hk).1.elim .inl (fun h => h.elim False.elim (fun h => .inr (.inr (by omega)))), (hfw2.own k hk).2⟩⟩
          have Hend := Lib.hid (each_ret (recs := recs) (Jx := Jx) (fp0 := fp) (fq := fq) (tp := tp) (B := 0) Hf1q.out (fun k hk => hk.elim) Hn3.out (by omega) hfw3 hor HT2.out)
          rcases hor with ⟨rfl, _⟩ | ⟨rfl, _⟩
          all_goals
            clear hfw2 hfw3
            gi_wp2_with fail
            exact Hend.out
    · have hd : ((r.length : Int) != 12) = true := by simp; omega
      have hT2 : (T ++ [(((0, []), 3), (none, 0))] : List EachV).map (·.1) = toldE none recs := by
        rw [HTo.out, toldE_bad _ _ _ h12, List.map_append]; rfl
      obtain ⟨fn, tmps, assign, body, hy, hR⟩ := (@_root_.id (YieldAt Fence.wide 0 Try.prog ly #[.agg #[.int .u32 0, .slice none 0 0], .int .i64 3] W _) (HY.out T fp1 (fun _ => False) (((0, []), 3), (none, 0)) W Hj.out Hfp1.out (fun k hk => hk.elim) Hon.out
        (by rw [hT2]; exact List.prefix_refl _) ⟨by simp, by simp [maxLen], by show 0 < 4294967296; omega, .inl rfl⟩))
      have HR := Lib.hid hR
      have HT2 := Lib.hid hT2
      clear hR hT2
      gi_wp2_with fail
      refine HR.out.mono ?_
      clear hy HR
      rintro e W2 ⟨fp2, hfw2, hor⟩
      have Hend := Lib.hid (each_ret (recs := recs) (Jx := Jx) (fp0 := fp) (fq := fq) (tp := tp) (B := 0) Hf1q.out (fun k hk => hk.elim) Hn3.out (by omega) hfw2 hor HT2.out)
      rcases hor with ⟨rfl, _⟩ | ⟨rfl, _⟩
      all_goals
        clear hfw2
        gi_wp2_with fail
        exact Hend.out
  case done =>
    rintro D xs fq W hD hxs ⟨T, fp1, st, ao', cap', g, hj, ht, hb, hokp, hlen, hn1, hn2, hn3, hf⟩ honly hfo hlt hnD hk
    have hy0 : W.cell? ⟨w.heap.size, 0, none⟩ = some (.func (.yield ly) #[] #[]) := (honly.cell (by omega) (by
      rintro ((h | h) | h)
      · have := (Hfp.out _ h).1; omega
      · omega
      · exact h) 0).trans Y0.out
    have hon : Only (fun k => fp k ∨ False) w W := (Only.of_below (fp := fun k => fp k ∨ False) HB1.out).trans honly (by
      rintro i hi ((h | h) | h)
      · exact .inl h
      · omega
      · exact .inr h)
    have hT : toldE none recs = T.map (·.1) ++ (flushP st).map (fun p => (p, 0)) := by
      have := ht []
      rw [List.append_nil, hxs, toldE_nil] at this
      exact this
    have hfp1 : ∀ k, fp1 k → k < W.heap.size := fun k hk => hlt k ((hf k).2 (.inl hk))
    have hnD1 : ¬ fp1 D := fun h => hnD ((hf D).2 (.inl h))
    have hgD : g ≠ some D := fun h => hnD ((hf D).2 (.inr (.inr h)))
    have d1 := hb.c1
    have d0 := hb.c0
    have d2 := hb.c2
    have hDW : D < W.heap.size := (Array.getElem?_eq_some_iff.1 hk).1
    have HT := Lib.hid hT
    have Hj := Lib.hid hj
    have Hb := Lib.hid hb
    have Hokp := Lib.hid hokp
    have Hn2 := Lib.hid hn2
    have Hn3 := Lib.hid hn3
    have Hon := Lib.hid hon
    have Hfp1 := Lib.hid hfp1
    have HgD := Lib.hid hgD
    have Hk := Lib.hid hk
    clear hT hj hb hokp hn2 hn3 hon hfp1 hgD hk ht honly hfo hlt hf hxs hlen HV
    dsimp only
    cases st with
    | none =>
      simp only [stId, stAt, Option.isSome] at d0 d1 d2
      gi_wp2_with fail
      have hs : Stays fp1 W (W.putObj D (.deferred none)) := ⟨rfl, rfl, rfl, by simp, fun k hk => World.putObj_heap_other (fun e => hnD1 (e ▸ hk))⟩
      exact leaveM1 Hk.out (results_none rfl _ _ _) (IterEnd.mk T fp1 (Hon.out.putObj _ (fun h => by omega)) (fun k hk => ⟨Hn3.out k hk, by simpa using Hfp1.out k hk⟩)
        (.inl ⟨by rw [HT.out]; simp [flushP], HJ.out _ _ _ _ Hj.out hs⟩))
    | some p =>
      simp only [stId, stAt, Option.isSome] at d0 d1 d2
      have hT2 : (T ++ [((p, 0), (ao', cap'))] : List EachV).map (·.1) = toldE none recs := by rw [HT.out]; simp [flushP]
      obtain ⟨fn, tmps, assign, body, hy, hR⟩ := (@_root_.id (YieldAt Fence.wide 0 Try.prog ly #[.agg #[.int .u32 (p.1 : Nat), .slice ao' p.2.length cap'], .int .i64 0] W _) (HY.out T fp1 (fun k => g = some k) ((p, 0), (ao', cap')) W Hj.out
        Hfp1.out (fun k hk => ⟨by have := (Hn2.out k hk).2; omega, Hb.out.own.lt k hk, (Hn2.out k hk).1⟩) Hon.out (by rw [hT2]; exact List.prefix_refl _)
        ⟨Hb.out.own.capLe.1, Hb.out.own.capLe.2, (Hokp.out p rfl).1, rdS_u32 Hb.out.own (Hokp.out p rfl).2⟩))
      have HR := Lib.hid hR
      have HT2 := Lib.hid hT2
      clear hR hT2
      gi_wp2_with fail
      refine HR.out.mono ?_
      clear hy HR
      rintro e W3 ⟨fp2, hfw2, hor⟩
      have hn2D : ¬ fp2 D := fun h => (hfw2.own D h).1.elim hnD1 (fun h => h.elim HgD.out (fun h => by omega))
      have hs : Stays fp2 W3 (W3.putObj D (.deferred none)) := ⟨rfl, rfl, rfl, by simp, fun k hk => World.putObj_heap_other (fun e => hn2D (e ▸ hk))⟩
      have hon3 : Only (fun k => fp k ∨ False) w W3 := Hon.out.trans hfw2.only (fun i hi h => (Hn3.out i h).elim .inl (fun h => by omega))
      have hk3 : W3.heap[D]? = some (.deferred (some [])) := (hfw2.only.same D hDW hnD1).trans Hk.out
      have hfin : ∀ k, fp2 k → (fp k ∨ w.heap.size ≤ k) ∧ k < (W3.putObj D (.deferred none)).heap.size := fun k hk => ⟨(hfw2.own k hk).1.elim (Hn3.out k) (fun h => h.elim (fun h => .inr (by have := (Hn2.out k h).2; omega)) (fun h => .inr (by have := Hon.out.size; omega))), by simpa using (hfw2.own k hk).2⟩
      have Hend := Lib.hid (fun v => IterEnd.mk (It := fun _ => False) (ok := fun pre : List EachV => pre.map (·.1) <+: toldE none recs) (S := fun xs => xs.map (·.1) = toldE none recs) (J := J) (Jx := Jx) (v := v) (T ++ [((p, 0), (ao', cap'))]) fp2 (hon3.putObj _ (fun h => by omega)) hfin
        (hor.imp (fun h => ⟨HT2.out, HJ.out _ _ _ _ h.2 hs⟩) (fun h => ⟨by rw [HT2.out]; exact List.prefix_refl _, HJx.out _ _ _ _ h.2 hs⟩)))
      have Hk3 := Lib.hid hk3
      rcases hor with ⟨rfl, _⟩ | ⟨rfl, _⟩
      all_goals
        clear hfw2 hs hon3 hk3 hfin
        gi_wp2_with fail
        exact leaveM1 Hk3.out (results_none rfl _ _ _) (Hend.out _)
end Go.Proofs.Ytbleacpdobjdaaa
