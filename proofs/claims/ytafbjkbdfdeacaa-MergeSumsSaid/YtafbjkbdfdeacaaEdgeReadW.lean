/- edge.Read. -/
import Derived.Test.YtafbjkbdfdeacaaEdgeOneW
import Derived.Test.YtafbjkbdfdeacaaTextLinesW
import Derived.Test.YtafbjkbdfdeacaaRoundQuiet
import Derived.Test.YtafbjkbdfdeacaaRep
namespace Go.Proofs.Ytafbjkbdfdeacaa
set_option linter.unusedSimpArgs false
set_option linter.unusedVariables false
open Go.RowKit

attribute [local go_sem] Oper.semAt_some

theorem srcManyE {P : Program} {tx e' : TypeId} (hk : P.underlying tx = some (.slice e')) (w : World) (cs : List Value) (t : TypeId) (k size n : Nat) (hn : n = w.heap.size) (hs : cs.length = size) (h1 : ∀ u ∈ cs, u.oneCell' = true) :
    Src P size tx (.slice (some ⟨n, 0, none⟩) 1 k) 1 cs (w.alloc (.cells cs.toArray t)) := by
  subst hn
  exact Src.ofSlice (w.alloc (.cells cs.toArray t)) hk ⟨w.heap.size, 0, none⟩ 1 k cs (by omega) (fun j u hu => by
    rw [Addr.add_lit, Nat.zero_add, World.cell?_alloc_new]
    simpa using hu) h1
def edgeRep : Rep EdgeD := Rep.prod Rep.u32 (Rep.prod Rep.u32 Rep.u32)
def edgeCs (x : EdgeD) : List Value := [.int .u32 (x.1 : Nat), .int .u32 (x.2.1 : Nat), .int .u32 (x.2.2 : Nat)]
theorem edgeRep_ok {W : World} {fp : Nat → Prop} {x : EdgeD} (h : okE x) : edgeRep.ok W fp x (edgeCs x) := ⟨[_], [_, _], rfl, ⟨rfl, h.1⟩, [_], [_], rfl, ⟨rfl, h.2.1⟩, ⟨rfl, h.2.2⟩⟩
theorem edgeElem : Elem Try.prog 53 24 3 12 (.agg #[.int .u32 0, .int .u32 0, .int .u32 0]) := Elem.mk' Try.underlying53 (by kernel_rfl) rfl (by decide)

/-- what a call that hands back edges, a line's number and an error leaves -/
def EReadRet (r : List EdgeD × Nat × Nat) (w : World) (e : Ending) (w' : World) : Prop :=
  ∃ ao cap, e = .returned (.tuple #[.slice ao r.1.length cap, .int .i64 (r.2.1 : Nat), .int .i64 (r.2.2 : Nat)]) ∧ r.1.length ≤ cap ∧ cap ≤ maxLen ∧ RdS edgeRep (fun k => w.heap.size ≤ k) w' ao r.1 ∧ Below w.heap.size w w'

/-- the four boxes -/
structure EJ (s : Nat) (fq : Nat → Prop) (W : World) (v : Value) : Prop where
  k0 : W.cell? ⟨s, 0, none⟩ = some (.slice none 0 0)
  k1 : W.cell? ⟨s + 1, 0, none⟩ = some (.int .i64 0)
  k2 : W.cell? ⟨s + 1 + 1, 0, none⟩ = some (.int .i64 0)
  k3 : W.cell? ⟨s + 1 + 1 + 1, 0, none⟩ = some v
  f0 : W.frozen? ⟨s, 0, none⟩ = false
  f1 : W.frozen? ⟨s + 1, 0, none⟩ = false
  f2 : W.frozen? ⟨s + 1 + 1, 0, none⟩ = false
  f3 : W.frozen? ⟨s + 1 + 1 + 1, 0, none⟩ = false
  q0 : fq s
  q1 : fq (s + 1)
  q2 : fq (s + 1 + 1)
  q3 : fq (s + 1 + 1 + 1)
theorem EJ.stays {s : Nat} {fq : Nat → Prop} {A B : World} {v : Value} (h : EJ s fq A v) (hs : Stays fq A B) : EJ s fq B v :=
  ⟨(hs.cell h.q0 0).trans h.k0, (hs.cell h.q1 0).trans h.k1, (hs.cell h.q2 0).trans h.k2, (hs.cell h.q3 0).trans h.k3, (hs.frozen h.q0 0).trans h.f0, (hs.frozen h.q1 0).trans h.f1, (hs.frozen h.q2 0).trans h.f2, (hs.frozen h.q3 0).trans h.f3, h.q0, h.q1, h.q2, h.q3⟩
theorem ej_ext {s : Nat} {fq : Nat → Prop} {A B : World} {v : Value} (h : EJ s fq A v) (hfl : ∀ k, fq k → k < A.heap.size) (hB : Below A.heap.size A B) : EJ s fq B v :=
  ⟨((bcell hB).1 _ 0 (hfl _ h.q0)).trans h.k0, ((bcell hB).1 _ 0 (hfl _ h.q1)).trans h.k1, ((bcell hB).1 _ 0 (hfl _ h.q2)).trans h.k2, ((bcell hB).1 _ 0 (hfl _ h.q3)).trans h.k3,
    ((bcell hB).2 _ 0 (hfl _ h.q0)).trans h.f0, ((bcell hB).2 _ 0 (hfl _ h.q1)).trans h.f1, ((bcell hB).2 _ 0 (hfl _ h.q2)).trans h.f2, ((bcell hB).2 _ 0 (hfl _ h.q3)).trans h.f3, h.q0, h.q1, h.q2, h.q3⟩
def edgeJ (ls : List (List UInt8)) (s : Nat) (pre : List (Nat × List UInt8)) (fq : Nat → Prop) (W : World) : Prop :=
  ∃ (out : List EdgeD) (ao : Option Addr) (cap : Nat) (g : Option Nat), out.length ≤ pre.length ∧ readEGo out pre.length (ls.drop pre.length) = readE ls ∧ EJ s fq W (.slice ao out.length cap) ∧ OwnS edgeRep (fun _ => False) W ao cap g 24 out ∧ (∀ k, g = some k → fq k ∧ s + 5 ≤ k)
theorem edgeJ.stays {ls : List (List UInt8)} {s : Nat} {pre : List (Nat × List UInt8)} {fq : Nat → Prop} {A B : World} (h : edgeJ ls s pre fq A) (hs : Stays fq A B) : edgeJ ls s pre fq B := by
  obtain ⟨out, ao, cap, g, h0, h1, h2, h5, h7⟩ := h
  exact ⟨out, ao, cap, g, h0, h1, h2.stays hs, h5.stays hs (fun b hb _ => hb.elim (fun h => h.elim) (fun h => (h7 b h).1)), h7⟩
def edgeX (ls : List (List UInt8)) (s : Nat) (c : Code) (fq : Nat → Prop) (W : World) : Prop :=
  c = .ret ∧ ∃ n e : Nat, readE ls = ([], n, e) ∧ e ≠ 0 ∧ (W.cell? ⟨s, 0, none⟩ = some (.slice none 0 0) ∧ W.cell? ⟨s + 1, 0, none⟩ = some (.int .i64 (n : Nat)) ∧ W.cell? ⟨s + 1 + 1, 0, none⟩ = some (.int .i64 (e : Nat))) ∧ (fq s ∧ fq (s + 1) ∧ fq (s + 1 + 1))
theorem edgeX.stays {ls : List (List UInt8)} {s : Nat} {c : Code} {fq : Nat → Prop} {A B : World} (h : edgeX ls s c fq A) (hs : Stays fq A B) : edgeX ls s c fq B := by
  obtain ⟨h0, n, e, h1, h2, ⟨c0, c1, c2⟩, q0, q1, q2⟩ := h
  exact ⟨h0, n, e, h1, h2, ⟨(hs.cell q0 0).trans c0, (hs.cell q1 0).trans c1, (hs.cell q2 0).trans c2⟩, q0, q1, q2⟩

theorem edge_skip {ls : List (List UInt8)} {s : Nat} {pre : List (Nat × List UInt8)} {xp : Nat × List UInt8} {fq tp : Nat → Prop} {W W2 : World} {out : List EdgeD} {ao : Option Addr} {cap : Nat} {g : Option Nat} (hol : out.length ≤ pre.length)
    (hgo : readEGo out (pre.length + 1) (ls.drop (pre.length + 1)) = readE ls) (hej : EJ s fq W (.slice ao out.length cap)) (h5 : OwnS edgeRep (fun _ => False) W ao cap g 24 out) (h7 : ∀ k, g = some k → fq k ∧ s + 5 ≤ k) (hfl : ∀ k, fq k → k < W.heap.size) (hB : Below W.heap.size W W2) :
    ∃ fp', FwdT fq tp fp' W W2 ∧ edgeJ ls s (pre ++ [xp]) fp' W2 :=
  ⟨fq, FwdT.const (Only.of_below hB) hfl, out, ao, cap, g, by simp; omega, by simpa using hgo, ej_ext hej hfl hB, h5.ext hB, h7⟩
theorem edge_break {ls : List (List UInt8)} {s n e : Nat} {fq tp : Nat → Prop} {W w2 : World} {v : Value} {o : Obj} (hre : readE ls = ([], n, e)) (hne : e ≠ 0) (hej : EJ s fq W v) (hfl : ∀ k, fq k → k < W.heap.size) (hB : Below W.heap.size W w2) {vn : Value} (hvn : vn = .int .i64 (n : Nat)) :
    ∃ fp', FwdT fq tp fp' W ((((w2.setCell ⟨s, 0, none⟩ (.slice none 0 0)).setCell ⟨s + 1, 0, none⟩ vn).setCell ⟨s + 1 + 1, 0, none⟩ (.int .i64 (e : Nat))).alloc o) ∧
      edgeX ls s .ret fp' ((((w2.setCell ⟨s, 0, none⟩ (.slice none 0 0)).setCell ⟨s + 1, 0, none⟩ vn).setCell ⟨s + 1 + 1, 0, none⟩ (.int .i64 (e : Nat))).alloc o) := by
  subst hvn
  have h0 := hfl _ hej.q0
  have h1 := hfl _ hej.q1
  have h2 := hfl _ hej.q2
  have hz := hB.size
  have hk := ej_ext hej hfl hB
  refine ⟨fq, FwdT.const (((((Only.of_below (fp := fq) hB).setCell (fun _ => hej.q0) _).setCell (fun _ => hej.q1) _).setCell (fun _ => hej.q2) _).alloc _) hfl, rfl, n, e, hre, hne, ⟨?_, ?_, ?_⟩, hej.q0, hej.q1, hej.q2⟩
  · rw [World.cell?_alloc_lt _ _ _ (by simp; omega)]; simp [cell_set_ite, hk.k0, show ¬ s + 1 + 1 = s by omega, show ¬ s = s + 1 + 1 by omega]
  · rw [World.cell?_alloc_lt _ _ _ (by simp; omega)]; simp [cell_set_ite, hk.k1, show ¬ s + 1 + 1 = s by omega, show ¬ s = s + 1 + 1 by omega]
  · rw [World.cell?_alloc_lt _ _ _ (by simp; omega)]; simp [cell_set_ite, hk.k2, show ¬ s + 1 + 1 = s by omega, show ¬ s = s + 1 + 1 by omega]
/-- one edge more -/
theorem edge_more {ls : List (List UInt8)} {s n : Nat} {pre : List (Nat × List UInt8)} {xp : Nat × List UInt8} {fq tp : Nat → Prop} {W W5 : World} {out : List EdgeD} {x : EdgeD} {ao ao5 : Option Addr} {cap cap5 : Nat} {g g5 : Option Nat} {css : List (List Value)} (hol : out.length ≤ pre.length) (hn : out.length = n)
    (hgo : readEGo (out ++ [x]) (pre.length + 1) (ls.drop (pre.length + 1)) = readE ls) (hx : okE x) (hej : EJ s fq W (.slice ao n cap)) (hall : All2 (fun x cs => edgeRep.ok W (fun _ => False) x cs) out css) (h7 : ∀ k, g = some k → fq k ∧ s + 5 ≤ k) (hfl : ∀ k, fq k → k < W.heap.size) (hsW : s + 5 ≤ W.heap.size)
    (ho5 : Own W5 ao5 cap5 g5 24 3 (n + 1) (css.flatten ++ edgeCs x)) (hg5 : ∀ b, g5 = some b → g = some b ∨ W.heap.size ≤ b) (hon : Only (fun k => g = some k) W W5) {vn : Value} (hvn : vn = .slice ao5 (n + 1) cap5) :
    ∃ fp', FwdT fq tp fp' W (W5.setCell ⟨s + 1 + 1 + 1, 0, none⟩ vn) ∧ edgeJ ls s (pre ++ [xp]) fp' (W5.setCell ⟨s + 1 + 1 + 1, 0, none⟩ vn) := by
  subst hvn hn
  have h0 := hfl _ hej.q0
  have h1 := hfl _ hej.q1
  have h2 := hfl _ hej.q2
  have h3 := hfl _ hej.q3
  have s5 := hon.size
  have hc : ∀ b, b < s + 4 → b < W.heap.size → W5.cell? ⟨b, 0, none⟩ = W.cell? ⟨b, 0, none⟩ := fun b hb hl => hon.cell hl (fun e => by have := (h7 b e).2; omega) 0
  have hf : ∀ b, b < s + 4 → b < W.heap.size → W5.frozen? ⟨b, 0, none⟩ = W.frozen? ⟨b, 0, none⟩ := fun b hb hl => hon.frozen hl (fun e => by have := (h7 b e).2; omega) 0
  have hset : Only (fun k => k = s + 1 + 1 + 1) W5 (W5.setCell ⟨s + 1 + 1 + 1, 0, none⟩ (.slice ao5 (out.length + 1) cap5)) := (Only.refl (fun k => k = s + 1 + 1 + 1) W5).setCell (p := ⟨s + 1 + 1 + 1, 0, none⟩) (fun _ => rfl) _
  have hO : Only fq W W5 := hon.mono (fun k _ e => (h7 k e).1)
  have hge5 : ∀ b, g5 = some b → s + 5 ≤ b ∧ b < W5.heap.size := fun b hb => ⟨(hg5 b hb).elim (fun h => (h7 b h).2) (fun h => by omega), ho5.lt b hb⟩
  have hS : OwnS edgeRep (fun _ => False) W5 ao5 cap5 g5 24 (out ++ [x]) := OwnS.snoc (w := W) hall (edgeRep_ok hx) ho5 (fun b hb _ => hb.elim) s5
  refine ⟨fun k => k = s ∨ k = s + 1 ∨ k = s + 1 + 1 ∨ k = s + 1 + 1 + 1 ∨ g5 = some k, ⟨hO.setCell (fun _ => hej.q3) _, fun k hk => ?_⟩, out ++ [x], ao5, cap5, g5, by simp; omega, by simpa using hgo, ?_, hS.stays (hset.stays (gp := fun k => False ∨ g5 = some k) (fun k hk => ⟨hk.elim (fun h => h.elim) (fun h => (hge5 k h).2), fun e => hk.elim (fun h => h.elim) (fun h => by have := (hge5 k h).1; omega)⟩)) (fun b hb _ => hb), fun k hk => ⟨.inr (.inr (.inr (.inr hk))), (hge5 k hk).1⟩⟩
  · rw [World.size_setCell]
    rcases hk with rfl | rfl | rfl | rfl | h
    · exact ⟨.inl hej.q0, by omega⟩
    · exact ⟨.inl hej.q1, by omega⟩
    · exact ⟨.inl hej.q2, by omega⟩
    · exact ⟨.inl hej.q3, by omega⟩
    · exact ⟨(hg5 k h).elim (fun e => .inl (h7 k e).1) (fun e => .inr (.inr (by omega))), (hge5 k h).2⟩
  · have c0 := (hc s (by omega) h0).trans hej.k0
    have c1 := (hc (s + 1) (by omega) h1).trans hej.k1
    have c2 := (hc (s + 1 + 1) (by omega) h2).trans hej.k2
    have c3 := (hc (s + 1 + 1 + 1) (by omega) h3).trans hej.k3
    constructor
    · simp [cell_set_ite, c0, show ¬ s + 1 + 1 + 1 = s by omega, show ¬ s = s + 1 + 1 + 1 by omega, show ¬ s + 1 + 1 = s by omega, show ¬ s = s + 1 + 1 by omega]
    · simp [cell_set_ite, c1, show ¬ s + 1 + 1 + 1 = s by omega, show ¬ s = s + 1 + 1 + 1 by omega, show ¬ s + 1 + 1 = s by omega, show ¬ s = s + 1 + 1 by omega]
    · simp [cell_set_ite, c2, show ¬ s + 1 + 1 + 1 = s by omega, show ¬ s = s + 1 + 1 + 1 by omega, show ¬ s + 1 + 1 = s by omega, show ¬ s = s + 1 + 1 by omega]
    · simp [cell_set_ite, c3]
    · exact (World.frozen?_setCell ..).trans ((hf _ (by omega) h0).trans hej.f0)
    · exact (World.frozen?_setCell ..).trans ((hf _ (by omega) h1).trans hej.f1)
    · exact (World.frozen?_setCell ..).trans ((hf _ (by omega) h2).trans hej.f2)
    · exact (World.frozen?_setCell ..).trans ((hf _ (by omega) h3).trans hej.f3)
    · exact .inl rfl
    · exact .inr (.inl rfl)
    · exact .inr (.inr (.inl rfl))
    · exact .inr (.inr (.inr (.inl rfl)))

set_option maxRecDepth 100000 in
set_option maxHeartbeats 3200000 in
theorem eread_any (l : List UInt8) (hl : l.length ≤ 50000) (ao : Option Addr) (cap : Nat) (w : World) (hrd : Rd w ao l.length (byteVals l)) (hcap : l.length ≤ cap) (hcm : cap ≤ maxLen) :
    Calls Try.prog 32 #[.slice ao l.length cap] w (EReadRet (readE (lines l)) w) := by
  have hE := edgeElem
  have hmix : Try.prog.follows .mixedOrders = true := by kernel_rfl
  have hd : decide ((1048576 : Int) < l.length) = false := decide_eq_false (by omega)
  have hit := fun b => (lines_iter b l ao cap (by omega) hcap hcm).toT
  have hlm := lines_mem2 l
  have hll := lines_len l
  generalize lines l = ls at hit hlm hll
  have Hlm := Lib.hid hlm
  clear hlm
  refine (callsIn_wide (n := 0)).1 (callsIn_of_wp_marks Try.func32 rfl trivial ?_)
  simp only [Try.ntmps32, List.size_toArray, List.length_cons, List.length_nil, Nat.reduceAdd, Nat.reduceSub, Array.replicate_succ, Array.replicate_zero, List.push_toArray, List.append_toArray, List.nil_append, List.cons_append]
  gi_wp2_with fail
  refine wpIn_wide.2 (wp_scope_straight ((wpIn_wide (n := 0)).1 ?_))
  gi_wp2_with fail
  refine wpIn_label ?_
  gi_wp2_with (gi_at_call 55; refine (callsIn_wide.2 (lines_any _ _ _ _)).mono ?_; rintro e w2 ⟨rfl, rfl⟩)
  obtain ⟨w1, hw1⟩ : ∃ w1, (((((w.alloc (Obj.cells #[Value.slice none 0 0] 53)).alloc (Obj.cells #[Value.int IntKind.i64 0] 3)).alloc (Obj.cells #[Value.int IntKind.i64 0] 28)).alloc (Obj.cells #[Value.slice none 0 0] 53)).alloc (Obj.cells #[Value.slice ao l.length cap] 25)) = w1 := ⟨_, rfl⟩
  have hs1 : w1.heap.size = w.heap.size + 5 := by rw [← hw1]; simp
  have hB1 : Below w.heap.size w w1 := by rw [← hw1]; exact ((((ext_alloc w _).alloc (by simp) _).alloc (by simp; omega) _).alloc (by simp; omega) _).alloc (by simp; omega) _
  have c4 : w1.cell? ⟨w.heap.size + 1 + 1 + 1 + 1, 0, none⟩ = some (.slice ao l.length cap) := by rw [← hw1]; simp [go_sem, ↓IntWalk.iteOmega]
  have hI0 : edgeJ ls w.heap.size [] (fun k => k = w.heap.size ∨ k = w.heap.size + 1 ∨ k = w.heap.size + 2 ∨ k = w.heap.size + 3) w1 := by
    rw [← hw1]
    refine ⟨[], none, 0, none, Nat.le_refl _, rfl, ?_, OwnS.nil _ _ _ _, (fun k h => by cases h)⟩
    constructor <;> first | omega | (simp [go_sem, ↓IntWalk.iteOmega])
  have hao : ∀ k off, 0 < l.length → ao = some ⟨k, off, none⟩ → k < w.heap.size := fun k off h0 e => by
    obtain ⟨b, o, h1, h2, _⟩ := hrd.pos h0
    rw [h1] at e
    cases e
    exact h2
  have hrd1 := hrd.ext hB1
  rw [hw1]
  have HI0 := Lib.hid hI0
  have HB1 := Lib.hid hB1
  have Hrd1 := Lib.hid hrd1
  have hs1' : w.heap.size + 5 ≤ w1.heap.size := by omega
  clear hw1 hs1 hI0 hB1 hrd1
  refine wpIn_rangeTS (gf := 65) (lb := #[.pointer (some ⟨w.heap.size + 1 + 1 + 1 + 1, 0, none⟩)]) rfl (enters_of Try.func65 (by kernel_rfl) rfl) (hit _) (fun _ => rfl)
    (fun k => k = w.heap.size ∨ k = w.heap.size + 1 ∨ k = w.heap.size + 2 ∨ k = w.heap.size + 3) (fun k hk => ⟨by omega, fun h => h.elim (fun h => by omega) (fun ⟨h0, off, e⟩ => by have := hao _ _ h0 e; omega)⟩)
    (fun k h => h.elim (fun h => by omega) (fun ⟨h0, off, e⟩ => by have := hao _ _ h0 e; omega)) (fun k h => h.elim)
    (fun pre fq W => edgeJ ls w.heap.size pre fq W) (fun c pre fq W => edgeX ls w.heap.size c fq W) (fun pre fq A B h hs => h.stays hs) (fun c pre fq A B h hs => h.stays hs) (fun _ _ _ _ => trivial) ?hPre HI0.out
    [(16, fun x => .int .i64 x.1), (17, fun x => .string (bs x.2)), (6, fun x => .int .i64 x.1), (7, fun x => .string (bs x.2))] ?assign ?body ?done ?stop
  case hPre => exact fun W hb => ⟨((bcell hb).1 _ 0 (by omega)).trans c4, Hrd1.out.ext hb⟩
  case assign =>
    intro l x W K hK
    rw [show lineEnc x = #[.int .i64 x.1, .string (bs x.2)] from rfl]
    gi_wp2
    exact hK
  case body =>
    rintro l0 pre fq tp x W W0 hl0 hr0 honly hok _ ho0 hnl hflt htp ⟨out, ao', cap', g, hol, hgo, hej, h5, h7⟩ hsz
    simp only [List.foldl_cons, List.foldl_nil, List.setIfInBounds_toArray, List.set_cons_zero, List.set_cons_succ]
    obtain ⟨y, rfl, hy, hlt⟩ := pre_next hok
    obtain ⟨hyi, hye⟩ := List.getElem?_eq_some_iff.1 hy
    have hyl : y.length ≤ 50000 := by have := Hlm.out y (hye ▸ List.getElem_mem hyi); omega
    rw [List.drop_eq_getElem_cons hlt, hye] at hgo
    have hO : ∀ W : World, Calls Try.prog 30 #[.string (bs y)] W (fun e w' => e = .returned (.tuple #[edgeV (oneE y).1, .bool (oneE y).2.1, .int .i64 ((oneE y).2.2 : Nat)]) ∧ Below W.heap.size W w') := fun W => one_any y (by omega) W
    have hb1 : (oneE y).2.2 ≠ 0 → readE ls = ([], pre.length + 1, (oneE y).2.2) := fun h => by rw [← hgo, readE_bad h]
    have hb2 : (oneE y).2.2 = 0 → (oneE y).2.1 = false → readEGo out (pre.length + 1) (ls.drop (pre.length + 1)) = readE ls := fun h h2 => by rw [← hgo, readE_skip h h2]
    have hb3 : (oneE y).2.2 = 0 → (oneE y).2.1 = true → readEGo (out ++ [(oneE y).1]) (pre.length + 1) (ls.drop (pre.length + 1)) = readE ls := fun h h2 => by rw [← hgo, readE_take h h2]
    have hb4 : (oneE y).2.1 = true → okE (oneE y).1 := fun h => by
      rcases oneW_ok (words y) with ⟨_, _, h2, _⟩ | ⟨_, h2, _⟩
      · exact h2
      · unfold oneE at h; rw [h2] at h; cases h
    generalize oneE y = r at hO hb1 hb2 hb3 hb4
    obtain ⟨⟨x0, x1, x2⟩, is, er⟩ := r
    simp only at hb1 hb2 hb3 hb4
    simp only [edgeV] at hO
    have HO := Lib.hid hO
    have Hol := Lib.hid hol
    have Hej := Lib.hid hej
    have H5 := Lib.hid h5
    have H7 := Lib.hid h7
    have Hfl := Lib.hid hflt
    have Hb1 := Lib.hid hb1
    have Hb2 := Lib.hid hb2
    have Hb3 := Lib.hid hb3
    have Hb4 := Lib.hid hb4
    have Hor := Lib.hid (show Only (fun k => (k = w.heap.size ∨ k = w.heap.size + 1 ∨ k = w.heap.size + 2 ∨ k = w.heap.size + 3) ∨ False) w1 W from honly)
    have hsW : w.heap.size + 5 ≤ W.heap.size := by have := honly.size; omega
    clear hO hgo hol h5 h7 hflt honly htp hnl ho0 hok hr0 hl0 hit hye hy hyi hej hb1 hb2 hb3 hb4
    dsimp only
    by_cases he : er = 0
    · have hd1 : ((er : Int) != 0) = false := by simp [he]
      cases is
      · gi_wp2_with (gi_at_call 30; refine (CallsIn.inRound l0 (callsIn_wide.2 (HO.out _))).mono ?_; rintro e w2 ⟨rfl, hB2⟩; have hz2 := hB2.size; have hp0 := Hfl.out _ Hej.out.q0; have hp1 := Hfl.out _ Hej.out.q1; have hp2 := Hfl.out _ Hej.out.q2; have hp3 := Hfl.out _ Hej.out.q3; obtain ⟨k0, k1, k2, k3, f0, f1, f2, f3, q0, q1, q2, q3⟩ := ej_ext Hej.out Hfl.out hB2; have HB2 := Lib.hid hB2; clear hB2)
        exact edge_skip Hol.out (Hb2.out he (by first | rfl | trivial)) Hej.out H5.out H7.out Hfl.out (HB2.out.alloc (by omega) _)
      · have hns : ((out.length : Int) == 65536) = false := by have := Hol.out; simp; omega
        obtain ⟨n, hn⟩ : ∃ n, out.length = n := ⟨_, rfl⟩
        obtain ⟨css, hown0, hall⟩ := H5.out.own
        have Hall := Lib.hid hall
        have hown1 : Own W _ cap' g 24 3 out.length css.flatten := hown0
        have Hgo3 := Lib.hid (Hb3.out he (by first | rfl | trivial))
        have hgs : g ≠ some (w.heap.size + 1 + 1 + 1) := fun e => by have := (H7.out _ e).2; omega
        have Hgs := Lib.hid hgs
        have hnb : out.length ≤ 1073741000 := by have := Hol.out; omega
        rw [hn] at hown1 hns hnb Hej
        have Hn := Lib.hid hn
        have Hown := Lib.hid hown1
        clear hown0 hall hown1 hgs hn he
        gi_wp2_with (first
          | (gi_at_call 30; refine (CallsIn.inRound l0 (callsIn_wide.2 (HO.out _))).mono ?_; rintro e w2 ⟨rfl, hB2⟩; have hz2 := hB2.size; have hp0 := Hfl.out _ Hej.out.q0; have hp1 := Hfl.out _ Hej.out.q1; have hp2 := Hfl.out _ Hej.out.q2; have hp3 := Hfl.out _ Hej.out.q3; obtain ⟨k0, k1, k2, k3, f0, f1, f2, f3, q0, q1, q2, q3⟩ := ej_ext Hej.out Hfl.out hB2; have HB2 := Lib.hid hB2; clear hB2)
          | (gi_at_builtin; refine wpListIn_app rfl (.tmp 37) (.tmp 39) 53 53 rfl hE (((Hown.out.ext HB2.out).alloc _).alloc _) rfl rfl (srcManyE Try.underlying53 _ _ _ _ 3 _ (by simp) rfl (by simp [Value.oneCell'])) (by simp [maxLen]; omega) (by omega) ?_; intro ao3 cap3 g3 W3 ho3 hg3 hon3; have e0 := hon3.cell (b := w.heap.size + 1 + 1 + 1) (by simp; omega) Hgs.out 0; have j0 := hon3.frozen (b := w.heap.size + 1 + 1 + 1) (by simp; omega) Hgs.out 0; have Ho3 := Lib.hid ho3; have Hg3 := Lib.hid hg3; have Hon3 := Lib.hid hon3; clear ho3 hg3 hon3))
        exact edge_more Hol.out Hn.out Hgo3.out (Hb4.out (by first | rfl | trivial)) Hej.out Hall.out H7.out Hfl.out hsW Ho3.out (fun b h => by rcases Hg3.out with e | e <;> rw [e] at h <;> first | exact .inl h | (cases h; right; simp; omega))
          ((Only.of_below ((HB2.out.alloc (by omega) _).alloc (by simp; omega) _)).trans Hon3.out (fun _ _ h => h)) rfl
    · have hd1 : ((er : Int) != 0) = true := by simp; omega
      gi_wp2_with (gi_at_call 30; refine (CallsIn.inRound l0 (callsIn_wide.2 (HO.out _))).mono ?_; rintro e w2 ⟨rfl, hB2⟩; have hz2 := hB2.size; have hp0 := Hfl.out _ Hej.out.q0; have hp1 := Hfl.out _ Hej.out.q1; have hp2 := Hfl.out _ Hej.out.q2; have hp3 := Hfl.out _ Hej.out.q3; obtain ⟨k0, k1, k2, k3, f0, f1, f2, f3, q0, q1, q2, q3⟩ := ej_ext Hej.out Hfl.out hB2; have HB2 := Lib.hid hB2; clear hB2)
      exact edge_break (Hb1.out he) he Hej.out Hfl.out HB2.out rfl
  case done =>
    rintro D xs fq W hD rfl ⟨out, ao', cap', g, hol, hgo, hej, h5, h7⟩ honly hfo hlt hnD hk
    rw [numFrom_length, List.drop_length] at hgo
    have Hgo := Lib.hid (show readE ls = (out, 0, 0) from hgo.symm)
    have hbW : Below w.heap.size w W := HB1.out.trans (honly.below (by omega) (by rintro k hk (h | h) <;> first | omega | exact h))
    have HbW := Lib.hid hbW
    have Hrd := Lib.hid h5.rd
    have Hcl := Lib.hid h5.capLe
    have H7 := Lib.hid h7
    have Hnd := Lib.hid hnD
    have Hk := Lib.hid hk
    have hsW : w.heap.size + 5 ≤ W.heap.size := by have := honly.size; omega
    obtain ⟨k0, k1, k2, k3, f0, f1, f2, f3, q0, q1, q2, q3⟩ := hej
    have hDW : D < W.heap.size := (Array.getElem?_eq_some_iff.1 hk).1
    clear hgo hbW h5 h7 hnD hk honly hfo hlt hit hol
    dsimp only
    gi_wp2_with fail
    change bodyPostM Fence.wide 0 Try.prog Try.f32 _ Exit.ret _ _
    refine leaveM1 (v := .tuple #[.slice ao' out.length cap', .int .i64 0, .int .i64 0]) ?_ ?_ ?_
    · rw [Below.heap_setCell _ _ _ _ (by simp; omega), Below.heap_setCell _ _ _ _ (by simp; omega), Below.heap_setCell _ _ _ _ (by simp; omega)]; exact Hk.out
    · have n0 : w.heap.size ≠ D := by omega
      have n1 : w.heap.size + 1 ≠ D := by omega
      have n2 : w.heap.size + 1 + 1 ≠ D := by omega
      simp [results, Try.results32, go_sem, n0, n1, n2, cell_set_ite, k0, k1, k2, show ¬ w.heap.size + 1 + 1 = w.heap.size by omega, show ¬ w.heap.size = w.heap.size + 1 + 1 by omega]
    · rw [Hgo.out]
      refine ⟨ao', cap', rfl, Hcl.out.1, Hcl.out.2, ?_, ?_⟩
      · refine (Hrd.out.keep (fun b hb hl => ?_) (by simp)).mono (fun b hb _ => by
          rcases hb with h | h
          · exact h.elim
          · have := (H7.out b h).2; omega)
        have hb5 : w.heap.size + 5 ≤ b ∧ b ≠ D := by
          rcases hb with h | h
          · exact h.elim
          · exact ⟨(H7.out b h).2, fun e => Hnd.out (e ▸ (H7.out b h).1)⟩
        rw [World.putObj_heap_other hb5.2, Below.heap_setCell _ _ _ _ (by simp; omega), Below.heap_setCell _ _ _ _ (by simp; omega), Below.heap_setCell _ _ _ _ (by simp; omega)]
      · exact ext_put (((HbW.out.setCell (by simp) _).setCell (by simp) _).setCell (by simp; omega) _) (by omega)
  case stop =>
    rintro D c xs fq W hD hok ⟨rfl, n, e, hre, hne, ⟨k0, k1, k2⟩, q0, q1, q2⟩ honly hfo hlt hnD hk
    have hbW : Below w.heap.size w W := HB1.out.trans (honly.below (by omega) (by rintro k hk (h | h) <;> first | omega | exact h))
    gi_wp2
    change bodyPostM Fence.wide 0 Try.prog Try.f32 _ Exit.ret _ _
    refine leaveM1 (v := .tuple #[.slice none 0 0, .int .i64 (n : Nat), .int .i64 (e : Nat)]) hk ?_ (by rw [hre]; exact ⟨none, 0, rfl, by simp, by simp [maxLen], .inl rfl, ext_put hbW (by omega)⟩)
    have n0 : w.heap.size ≠ D := by omega
    have n1 : w.heap.size + 1 ≠ D := by omega
    have n2 : w.heap.size + 1 + 1 ≠ D := by omega
    simp [results, Try.results32, go_sem, n0, n1, n2, k0, k1, k2]
end Go.Proofs.Ytafbjkbdfdeacaa
