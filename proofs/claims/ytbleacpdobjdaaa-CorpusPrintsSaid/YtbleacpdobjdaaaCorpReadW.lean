/- corpus.Read. -/
import Derived.Test.YtbleacpdobjdaaaRefRead
import Derived.Test.YtbleacpdobjdaaaRoundQuiet
import Derived.Test.YtbleacpdobjdaaaTextLinesW
import Derived.Shelf.RegionOpen
namespace Go.Proofs.Ytbleacpdobjdaaa
set_option linter.unusedSimpArgs false
set_option linter.unusedVariables false
open Go.RowKit

attribute [local go_sem] Oper.semAt_some

def readJ (ls : List (List UInt8)) (s : Nat) (pre : List (Nat × List UInt8)) (fq : Nat → Prop) (W : World) : Prop :=
  ∃ (out : List PathD) (ao : Option Addr) (cap : Nat) (g : Option Nat) (fe : Nat → Prop), out.length = pre.length ∧ readGo out pre.length (ls.drop pre.length) = readL ls ∧
    (W.cell? ⟨s, 0, none⟩ = some (.slice ao out.length cap) ∧ W.cell? ⟨s + 1, 0, none⟩ = some (.int .i64 0) ∧ W.cell? ⟨s + 1 + 1, 0, none⟩ = some (.int .i64 0)) ∧
    (W.frozen? ⟨s, 0, none⟩ = false ∧ W.frozen? ⟨s + 1, 0, none⟩ = false ∧ W.frozen? ⟨s + 1 + 1, 0, none⟩ = false) ∧ OwnS pathRep fe W ao cap g 64 out ∧
    (∀ k, fe k → fq k ∧ s + 4 ≤ k ∧ g ≠ some k) ∧ (∀ k, g = some k → fq k ∧ s + 4 ≤ k) ∧ (fq s ∧ fq (s + 1) ∧ fq (s + 1 + 1))
theorem readJ.stays {ls : List (List UInt8)} {s : Nat} {pre : List (Nat × List UInt8)} {fq : Nat → Prop} {A B : World} (h : readJ ls s pre fq A) (hs : Stays fq A B) : readJ ls s pre fq B := by
  obtain ⟨out, ao, cap, g, fe, h0, h1, ⟨c0, c1, c2⟩, ⟨f0, f1, f2⟩, h5, h6, h7, q0, q1, q2⟩ := h
  exact ⟨out, ao, cap, g, fe, h0, h1, ⟨(hs.cell q0 0).trans c0, (hs.cell q1 0).trans c1, (hs.cell q2 0).trans c2⟩, ⟨(hs.frozen q0 0).trans f0, (hs.frozen q1 0).trans f1, (hs.frozen q2 0).trans f2⟩,
    h5.stays hs (fun b hb _ => hb.elim (fun h => (h6 b h).1) (fun h => (h7 b h).1)), h6, h7, q0, q1, q2⟩
def readX (ls : List (List UInt8)) (s : Nat) (c : Code) (fq : Nat → Prop) (W : World) : Prop :=
  c = .exit 0 ∧ ∃ n e : Nat, readL ls = ([], n, e) ∧ e ≠ 0 ∧ (W.cell? ⟨s + 1, 0, none⟩ = some (.int .i64 (n : Nat)) ∧ W.cell? ⟨s + 1 + 1, 0, none⟩ = some (.int .i64 (e : Nat))) ∧ (fq (s + 1) ∧ fq (s + 1 + 1))
/-- a round that breaks off -/
theorem read_break {ls : List (List UInt8)} {s n e : Nat} {fq tp : Nat → Prop} {W w3 : World} (hre : readL ls = ([], n, e)) (hne : e ≠ 0) (q1 : fq (s + 1)) (q2 : fq (s + 1 + 1)) (hB : Below W.heap.size W w3) (hfl : ∀ k, fq k → k < W.heap.size) {v1 v2 : Value}
    (k1 : w3.cell? ⟨s + 1, 0, none⟩ = some v1) (k2 : w3.cell? ⟨s + 1 + 1, 0, none⟩ = some v2) :
    ∃ fp', FwdT fq tp fp' W ((w3.setCell ⟨s + 1, 0, none⟩ (.int .i64 (n : Nat))).setCell ⟨s + 1 + 1, 0, none⟩ (.int .i64 (e : Nat))) ∧ readX ls s (.exit 0) fp' ((w3.setCell ⟨s + 1, 0, none⟩ (.int .i64 (n : Nat))).setCell ⟨s + 1 + 1, 0, none⟩ (.int .i64 (e : Nat))) := by
  have h1 := hfl _ q1
  have h2 := hfl _ q2
  have hs := hB.size
  refine ⟨fun k => k = s + 1 ∨ k = s + 1 + 1, ⟨((Only.of_below (fp := fq) hB).setCell (fun _ => q1) _).setCell (fun _ => q2) _, fun k hk => ?_⟩, rfl, n, e, hre, hne, ⟨?_, ?_⟩, .inl rfl, .inr rfl⟩
  · rw [World.size_setCell, World.size_setCell]
    rcases hk with rfl | rfl
    · exact ⟨.inl q1, by omega⟩
    · exact ⟨.inl q2, by omega⟩
  · simp [cell_set_ite, k1]
  · simp [cell_set_ite, k2]
theorem readX.stays {ls : List (List UInt8)} {s : Nat} {c : Code} {fq : Nat → Prop} {A B : World} (h : readX ls s c fq A) (hs : Stays fq A B) : readX ls s c fq B := by
  obtain ⟨h0, n, e, h1, h2, ⟨c1, c2⟩, q1, q2⟩ := h
  exact ⟨h0, n, e, h1, h2, ⟨(hs.cell q1 0).trans c1, (hs.cell q2 0).trans c2⟩, q1, q2⟩

/-- a round that takes one path more -/
theorem read_more {w W w2 w3 W5 : World} {ls : List (List UInt8)} {pre : List (Nat × List UInt8)} {xp : Nat × List UInt8} {out : List PathD} {ao' ao5 : Option Addr} {cap' cap5 cl bl v n : Nat} {vs : List Nat} {g g5 : Option Nat} {fe fq tp : Nat → Prop} {css : List (List Value)}
    (hgo : readGo (out ++ [(v, vs)]) (pre.length + 1) (ls.drop (pre.length + 1)) = readL ls) (hol : out.length = pre.length) (hn : out.length = n) (hBW : Below w.heap.size w W) (h4 : w.heap.size + 4 ≤ W.heap.size) (hB2 : Below W.heap.size W w2) (hB3 : Below w2.heap.size w2 w3)
    (hall : All2 (fun x cs => pathRep.ok W fe x cs) out css) (h6 : ∀ k, fe k → fq k ∧ w.heap.size + 4 ≤ k ∧ g ≠ some k) (h7 : ∀ k, g = some k → fq k ∧ w.heap.size + 4 ≤ k) (q0 : fq w.heap.size) (q1 : fq (w.heap.size + 1)) (q2 : fq (w.heap.size + 1 + 1)) (hfl : ∀ k, fq k → k < W.heap.size)
    (hl : Own w3 (some ⟨bl, 0, none⟩) cl (some bl) 45 1 (vs.length + 1) (u32Vals (v :: vs))) (hgl : w2.heap.size ≤ bl) (hvb : ∀ u ∈ v :: vs, u < 4294967296)
    (ho5 : Own W5 ao5 cap5 g5 64 2 (out.length + 1) (css.flatten ++ [.int .u32 (v : Nat), .slice (some ⟨bl, 1, none⟩) vs.length (cl - 1)])) (hg5 : ∀ b, g5 = some b → g = some b ∨ w3.heap.size ≤ b) (hon : Only (fun k => g = some k) w3 W5)
    (hc : W.cell? ⟨w.heap.size, 0, none⟩ = some (.slice ao' n cap') ∧ W.cell? ⟨w.heap.size + 1, 0, none⟩ = some (.int .i64 0) ∧ W.cell? ⟨w.heap.size + 1 + 1, 0, none⟩ = some (.int .i64 0))
    (hf : W.frozen? ⟨w.heap.size, 0, none⟩ = false ∧ W.frozen? ⟨w.heap.size + 1, 0, none⟩ = false ∧ W.frozen? ⟨w.heap.size + 1 + 1, 0, none⟩ = false) :
    ∃ fp', FwdT fq tp fp' W (W5.setCell ⟨w.heap.size, 0, none⟩ (.slice ao5 (n + 1) cap5)) ∧ readJ ls w.heap.size (pre ++ [xp]) fp' (W5.setCell ⟨w.heap.size, 0, none⟩ (.slice ao5 (n + 1) cap5)) := by
  subst hn
  obtain ⟨r1, r2, r3, r4⟩ := read_step hBW hB2 hB3 hall (fun b hb => ⟨by have := (h6 b hb).2.1; omega, hfl b (h6 b hb).1, (h6 b hb).2.2⟩) (fun b hb => ⟨by have := (h7 b hb).2; omega, hfl b (h7 b hb).1⟩) hl hgl hvb ho5 hg5 hon
  have s2 := hB2.size
  have s3 := hB3.size
  have s5 := hon.size
  have hO : Only fq W W5 := (Only.of_below (hB2.trans (hB3.mono s2))).trans hon (fun i _ e => (h7 i e).1)
  have hng : ∀ k, g = some k → w.heap.size + 4 ≤ k := fun k h => (h7 k h).2
  have hbl := hl.lt bl rfl
  have hcell : ∀ b, b < w.heap.size + 4 → ∀ o, W5.cell? ⟨b, o, none⟩ = W.cell? ⟨b, o, none⟩ := fun b hb o => (hon.cell (by omega) (fun e => by have := hng b e; omega) o).trans ((bcell (hB2.trans (hB3.mono s2))).1 b o (by omega))
  have hfroz : ∀ b, b < w.heap.size + 4 → ∀ o, W5.frozen? ⟨b, o, none⟩ = W.frozen? ⟨b, o, none⟩ := fun b hb o => (hon.frozen (by omega) (fun e => by have := hng b e; omega) o).trans ((bcell (hB2.trans (hB3.mono s2))).2 b o (by omega))
  have hset : Only (fun k => k = w.heap.size) W5 (W5.setCell ⟨w.heap.size, 0, none⟩ (.slice ao5 (out.length + 1) cap5)) := (Only.refl (fun k => k = w.heap.size) W5).setCell (p := ⟨w.heap.size, 0, none⟩) (fun _ => rfl) _
  have hge : ∀ b, (fe b ∨ b = bl) → w.heap.size + 4 ≤ b ∧ b < W5.heap.size := fun b hb => hb.elim (fun h => ⟨(h6 b h).2.1, by have := hfl b (h6 b h).1; omega⟩) (fun h => by subst h; omega)
  have hge5 : ∀ b, g5 = some b → w.heap.size + 4 ≤ b ∧ b < W5.heap.size := fun b hb => ⟨(hg5 b hb).elim (hng b) (fun h => by omega), ho5.lt b hb⟩
  refine ⟨fun k => k = w.heap.size ∨ k = w.heap.size + 1 ∨ k = w.heap.size + 1 + 1 ∨ (fe k ∨ k = bl) ∨ g5 = some k, ⟨hO.setCell (fun _ => q0) _, fun k hk => ?_⟩, ?_⟩
  · rw [World.size_setCell]
    rcases hk with rfl | rfl | rfl | (h | rfl) | h
    · exact ⟨.inl q0, by omega⟩
    · exact ⟨.inl q1, by omega⟩
    · exact ⟨.inl q2, by omega⟩
    · exact ⟨.inl (h6 k h).1, (hge k (.inl h)).2⟩
    · exact ⟨.inr (.inr (by omega)), by omega⟩
    · exact ⟨(hg5 k h).elim (fun e => .inl (h7 k e).1) (fun e => .inr (.inr (by omega))), (hge5 k h).2⟩
  · refine ⟨out ++ [(v, vs)], ao5, cap5, g5, fun b => fe b ∨ b = bl, by simp [hol], by simpa using hgo, ⟨?_, ?_, ?_⟩, ⟨?_, ?_, ?_⟩, r1.stays (hset.stays (gp := fun k => (fe k ∨ k = bl) ∨ g5 = some k) (fun k hk => ⟨hk.elim (fun h => (hge k h).2) (fun h => (hge5 k h).2), fun e => hk.elim (fun h => by have := (hge k h).1; omega) (fun h => by have := (hge5 k h).1; omega)⟩)) (fun b hb _ => hb),
      fun k hk => ⟨.inr (.inr (.inr (.inl hk))), (hge k hk).1, (r2 k hk).2.2⟩, fun k hk => ⟨.inr (.inr (.inr (.inr hk))), (hge5 k hk).1⟩, .inl rfl, .inr (.inl rfl), .inr (.inr (.inl rfl))⟩
    · simp [cell_set_ite, hcell w.heap.size (by omega), hc.1]
    · simp [cell_set_ite, hcell (w.heap.size + 1) (by omega), hc.2.1]
    · simp [cell_set_ite, hcell (w.heap.size + 1 + 1) (by omega), hc.2.2]; omega
    · exact (World.frozen?_setCell ..).trans ((hfroz w.heap.size (by omega) 0).trans hf.1)
    · exact (World.frozen?_setCell ..).trans ((hfroz (w.heap.size + 1) (by omega) 0).trans hf.2.1)
    · exact (World.frozen?_setCell ..).trans ((hfroz (w.heap.size + 1 + 1) (by omega) 0).trans hf.2.2)

set_option maxRecDepth 100000 in
set_option maxHeartbeats 3200000 in
theorem read_any (l : List UInt8) (hl : l.length ≤ 50000) (ao : Option Addr) (cap : Nat) (w : World) (hrd : Rd w ao l.length (byteVals l)) (hcap : l.length ≤ cap) (hcm : cap ≤ maxLen) :
    Calls Try.prog 37 #[.slice ao l.length cap] w (ReadRet (readL (lines l)) w) := by
  have hE := pathElem
  have hmix : Try.prog.follows .mixedOrders = true := by kernel_rfl
  have hd : decide ((1048576 : Int) < l.length) = false := decide_eq_false (by omega)
  have hit := fun b => (lines_iter b l ao cap (by omega) hcap hcm).toT
  have hlm := lines_mem l
  have hll := lines_len l
  generalize lines l = ls at hit hlm hll
  have Hlm := Lib.hid hlm
  clear hlm
  refine (callsIn_wide (n := 0)).1 (callsIn_of_wp_marks Try.func37 rfl trivial ?_)
  simp only [Try.ntmps37, List.size_toArray, List.length_cons, List.length_nil, Nat.reduceAdd, Nat.reduceSub, Array.replicate_succ, Array.replicate_zero, List.push_toArray, List.append_toArray, List.nil_append, List.cons_append]
  gi_wp2_with fail
  refine wpIn_wide.2 (wp_scope_straight ((wpIn_wide (n := 0)).1 ?_))
  gi_wp2_with fail
  refine wpIn_label ?_
  gi_wp2_with (gi_at_call 24; refine (callsIn_wide.2 (lines_any _ _ _ _)).mono ?_; rintro e w2 ⟨rfl, rfl⟩)
  obtain ⟨w1, hw1⟩ : ∃ w1, ((((w.alloc (Obj.cells #[Value.slice none 0 0] 49)).alloc (Obj.cells #[Value.int IntKind.i64 0] 3)).alloc (Obj.cells #[Value.int IntKind.i64 0] 28)).alloc (Obj.cells #[Value.slice ao l.length cap] 34)) = w1 := ⟨_, rfl⟩
  have hs1 : w1.heap.size = w.heap.size + 4 := by rw [← hw1]; simp
  have hB1 : Below w.heap.size w w1 := by rw [← hw1]; exact (((ext_alloc w _).alloc (by simp) _).alloc (by simp; omega) _).alloc (by simp; omega) _
  have c3 : w1.cell? ⟨w.heap.size + 1 + 1 + 1, 0, none⟩ = some (.slice ao l.length cap) := by rw [← hw1]; simp [go_sem, ↓IntWalk.iteOmega]
  have hI0 : readJ ls w.heap.size [] (fun k => k = w.heap.size ∨ k = w.heap.size + 1 ∨ k = w.heap.size + 2) w1 := by
    rw [← hw1]
    exact ⟨[], none, 0, none, fun _ => False, rfl, rfl, ⟨by simp [go_sem, ↓IntWalk.iteOmega], by simp [go_sem, ↓IntWalk.iteOmega], by simp [go_sem, ↓IntWalk.iteOmega]⟩, ⟨by simp [go_sem, ↓IntWalk.iteOmega], by simp [go_sem, ↓IntWalk.iteOmega], by simp [go_sem, ↓IntWalk.iteOmega]⟩, OwnS.nil _ _ _ _, fun k h => h.elim, (fun k h => by cases h), by omega⟩
  have hao : ∀ k off, 0 < l.length → ao = some ⟨k, off, none⟩ → k < w.heap.size := fun k off h0 e => by
    obtain ⟨b, o, h1, h2, _⟩ := hrd.pos h0
    rw [h1] at e
    cases e
    exact h2
  have hrd1 := hrd.ext hB1
  rw [hw1]
  have HI0 := Lib.hid hI0
  have HB1 := Lib.hid hB1
  have Hrd1 := Lib.hid hrd1
  have hs1' : w.heap.size + 4 ≤ w1.heap.size := by omega
  clear hw1 hs1 hI0 hB1 hrd1
  refine wpIn_rangeTS (gf := 44) (lb := #[.pointer (some ⟨w.heap.size + 1 + 1 + 1, 0, none⟩)]) rfl (enters_of Try.func44 (by kernel_rfl) rfl) (hit _) (fun _ => rfl)
    (fun k => k = w.heap.size ∨ k = w.heap.size + 1 ∨ k = w.heap.size + 2) (fun k hk => ⟨by omega, fun h => h.elim (fun h => by omega) (fun ⟨h0, off, e⟩ => by have := hao _ _ h0 e; omega)⟩)
    (fun k h => h.elim (fun h => by omega) (fun ⟨h0, off, e⟩ => by have := hao _ _ h0 e; omega)) (fun k h => h.elim)
    (fun pre fq W => readJ ls w.heap.size pre fq W) (fun c pre fq W => readX ls w.heap.size c fq W) (fun pre fq A B h hs => h.stays hs) (fun c pre fq A B h hs => h.stays hs) (fun _ _ _ _ => trivial) ?hPre HI0.out
    [(18, fun x => .int .i64 x.1), (19, fun x => .string (bs x.2)), (8, fun x => .int .i64 x.1), (9, fun x => .string (bs x.2))] ?assign ?body ?done ?stop
  case hPre => exact fun W hb => ⟨((bcell hb).1 _ 0 (by omega)).trans c3, Hrd1.out.ext hb⟩
  case assign =>
    intro l x W K hK
    rw [show lineEnc x = #[.int .i64 x.1, .string (bs x.2)] from rfl]
    gi_wp2
    exact hK
  case body =>
    rintro l0 pre fq tp x W W0 hl0 hr0 honly hok _ ho0 hnl hflt htp ⟨out, ao', cap', g, fe, hol, hgo, ⟨k0, k1, k2⟩, ⟨f0, f1, f2⟩, h5, h6, h7, q0, q1, q2⟩ hsz
    simp only [List.foldl_cons, List.foldl_nil, List.setIfInBounds_toArray, List.set_cons_zero, List.set_cons_succ]
    obtain ⟨y, rfl, hy, hlt⟩ := pre_next hok
    obtain ⟨hyi, hye⟩ := List.getElem?_eq_some_iff.1 hy
    have hyl : y.length ≤ 50000 := by have := Hlm.out y (hye ▸ List.getElem_mem hyi); omega
    rw [List.drop_eq_getElem_cons hlt, hye] at hgo
    have hW := words_any y (by omega)
    have hwl := words_len y
    have hwm := words_mem y
    have hNum := fun (W' : World) (ad : Option Addr) (cd : Nat) (h : Rd W' ad (words y).length (strCells (words y))) => numbers_any (words y) ad cd W' (by omega) (fun x hx => by have := hwm x hx; omega) h
    have hE1 : (words y).length < 2 → lineErr out y = 12 := fun h => by simp [lineErr, h]
    have hE2 : ¬ (words y).length < 2 → (nums (words y)).2 ≠ 0 → lineErr out y = (nums (words y)).2 := fun h2 h => by simp [lineErr, h2, h]
    have hE3 : ¬ (words y).length < 2 → (nums (words y)).2 = 0 → notAbove out ((nums (words y)).1.headD 0) = true → lineErr out y = 13 := fun h2 h h' => by unfold lineErr; rw [if_neg h2, if_neg (by omega), if_pos h']
    have hE4 : ¬ (words y).length < 2 → (nums (words y)).2 = 0 → notAbove out ((nums (words y)).1.headD 0) = false → lineErr out y = 0 := fun h2 h h' => by unfold lineErr; rw [if_neg h2, if_neg (by omega), if_neg (by rw [h']; decide)]
    have hP : pathOf y = ((nums (words y)).1.headD 0, (nums (words y)).1.tail) := rfl
    have hokn := @nums_ok (words y)
    generalize words y = ws at hW hwl hNum hE1 hE2 hE3 hE4 hP hokn
    generalize nums ws = r at hNum hE2 hE3 hE4 hP hokn
    obtain ⟨N, E⟩ := r
    simp only at hE2 hE3 hE4 hP hokn
    have HW := Lib.hid hW
    have HNum := Lib.hid hNum
    have Hgo := Lib.hid hgo
    have Hol := Lib.hid hol
    have H5 := Lib.hid h5
    have H6 := Lib.hid h6
    have H7 := Lib.hid h7
    have Hfl := Lib.hid hflt
    have Hor := Lib.hid (show Only (fun k => (k = w.heap.size ∨ k = w.heap.size + 1 ∨ k = w.heap.size + 2) ∨ False) w1 W from honly)
    have p0 := hflt _ q0
    have p1 := hflt _ q1
    have p2 := hflt _ q2
    have hsW : w.heap.size + 4 ≤ W.heap.size := by have := honly.size; omega
    clear hW hNum hgo hol h5 h6 h7 hflt honly htp hnl ho0 hok hr0 hl0 hit hwm hye hy hyi
    dsimp only
    by_cases h2 : ws.length < 2
    · have hle := hE1 h2
      have hgo := Hgo.out
      rw [readGo_bad (by omega), hle] at hgo
      have Hre := Lib.hid hgo.symm
      have hd2 : decide ((ws.length : Int) < 2) = true := decide_eq_true (by omega)
      clear hE1 hE2 hE3 hE4 hokn hle hgo h2 hP
      gi_wp2_with (first
        | (gi_at_call 17; refine (CallsIn.inRound l0 (callsIn_wide.2 (HW.out _))).mono ?_; rintro e w2 ⟨ad, cd, gd, rfl, hod, hgd, hB2⟩; have hz2 := hB2.size; have HB2 := Lib.hid hB2; have Hod := Lib.hid hod; clear hB2 hod hgd)
        | (gi_at_call 53; refine (CallsIn.inRound l0 (callsIn_wide.2 (HNum.out _ _ _ Hod.out.rd))).mono ?_; rintro e w3 ⟨an, cn, gn, rfl, hon, hgn, hB3⟩; have hB23 : Below W.heap.size W w3 := HB2.out.trans (hB3.mono hz2); have r0 := ((bcell hB23).1 _ 0 p0).trans k0; have g0 := ((bcell hB23).2 _ 0 p0).trans f0; have r1 := ((bcell hB23).1 _ 0 p1).trans k1; have r2 := ((bcell hB23).1 _ 0 p2).trans k2; have g1 := ((bcell hB23).2 _ 0 p1).trans f1; have g2 := ((bcell hB23).2 _ 0 p2).trans f2; have HB23 := Lib.hid hB23; have HB3 := Lib.hid hB3; have Hon := Lib.hid hon; have Hgn := Lib.hid hgn; clear hB3 hB23 hon hgn))
      exact read_break (e := 12) Hre.out (by decide) q1 q2 HB23.out Hfl.out r1 r2
    · have hd2 : decide ((ws.length : Int) < 2) = false := decide_eq_false (by omega)
      by_cases hE0 : E = 0
      · subst hE0
        obtain ⟨hNl, hvb⟩ := hokn rfl
        match N, hNl, hvb, HNum, hE3, hE4, hP with
        | [], hNl, _, _, _, _, _ => simp at hNl; omega
        | v :: vs, hNl, hvb, HNum, hE3, hE4, hP =>
          simp only [List.headD_cons, List.tail_cons] at hE3 hE4 hP
          simp only [List.length_cons] at hNl
          by_cases hna : notAbove out v = true
          · have hle : lineErr out y = 13 := hE3 h2 trivial hna
            have hgo := Hgo.out
            rw [readGo_bad (by omega), hle] at hgo
            have Hre := Lib.hid hgo.symm
            obtain ⟨i, hi, hoi, hvi⟩ := notAbove_yes hna
            obtain ⟨bo, oo, ap, cp, rfl, hbo, hco, _, _, _, _⟩ := H5.out.rd.path i hi
            rw [hoi] at k0
            have hgt : decide ((0 : Int) < ((i + 1 : Nat) : Int)) = true := decide_eq_true (by omega)
            have hsub : ((i + 1 : Nat) : Int) - 1 = (i : Nat) := by omega
            have hib : (i : Int) < ((i + 1 : Nat) : Int) := by omega
            have hib2 : i ≤ 1073741000 := by have := Hol.out; omega
            obtain ⟨q, hq⟩ : ∃ q, out[i].1 = q := ⟨_, rfl⟩
            rw [hq] at hco hvi
            have ht1 : decide ((v : Int) ≤ (q : Int)) = true := decide_eq_true (by omega)
            have ht2 : decide (v ≤ q) = true := decide_eq_true hvi
            have Hco := Lib.hid hco
            have hlv : (0 : Int) < ((vs.length + 1 : Nat) : Int) := by omega
            clear hE1 hE2 hE3 hE4 hokn hle hgo h2 hoi hvi hna hq hco hvb hP
            gi_wp2_with (first
              | (gi_at_call 17; refine (CallsIn.inRound l0 (callsIn_wide.2 (HW.out _))).mono ?_; rintro e w2 ⟨ad, cd, gd, rfl, hod, hgd, hB2⟩; have hz2 := hB2.size; have HB2 := Lib.hid hB2; have Hod := Lib.hid hod; clear hB2 hod hgd)
              | (gi_at_call 53; refine (CallsIn.inRound l0 (callsIn_wide.2 (HNum.out _ _ _ Hod.out.rd))).mono ?_; rintro e w3 ⟨an, cn, gn, rfl, hon, hgn, hB3⟩; have hB23 : Below W.heap.size W w3 := HB2.out.trans (hB3.mono hz2); have r0 := ((bcell hB23).1 _ 0 p0).trans k0; have g0 := ((bcell hB23).2 _ 0 p0).trans f0; have r1 := ((bcell hB23).1 _ 0 p1).trans k1; have r2 := ((bcell hB23).1 _ 0 p2).trans k2; have g1 := ((bcell hB23).2 _ 0 p1).trans f1; have g2 := ((bcell hB23).2 _ 0 p2).trans f2; have HB23 := Lib.hid hB23; have HB3 := Lib.hid hB3; have Hon := Lib.hid hon; have Hgn := Lib.hid hgn; clear hB3 hB23 hon hgn))
            obtain ⟨bn, hgn2, rfl, hbn⟩ := Hon.out.pos (by simp)
            have n0 := Hon.out.cell 0 (by simp)
            simp only [u32Vals, List.map_cons, List.getElem?_cons_zero] at n0
            have hco := ((bcell HB23.out).1 bo _ hbo).trans Hco.out
            clear hgn2
            refine quiet_round (by kernel_rfl) (by kernel_rfl) (by kernel_rfl) ?_
            repeat (gi_big_quiet_step (fail))
            refine wpQuietIn_nil ?_
            intro _ hw'
            obtain ⟨nq, hw''⟩ := hw'
            subst hw''
            gi_wp2_with fail
            exact read_break (e := 13) Hre.out (by decide) q1 q2 (below_drewN HB23.out _) Hfl.out r1 r2
          · have hle : lineErr out y = 0 := hE4 h2 trivial (by simpa using hna)
            have hgo := Hgo.out
            rw [readGo_ok hle, hP] at hgo
            have Hgo2 := Lib.hid hgo
            clear hP
            have hlv : (0 : Int) < ((vs.length + 1 : Nat) : Int) := by omega
            have hl1 : (1 : Int) ≤ ((vs.length + 1 : Nat) : Int) := by omega
            have hl2 : (1 : Int) ≤ (vs.length : Int) + 1 := by omega
            have Hvb := Lib.hid hvb
            have hvs : 1 ≤ vs.length := by omega
            rcases notAbove_no (show notAbove out v = false by simpa using hna) with h0 | ⟨i, hi, hoi, hvi⟩
            · have hgt : decide ((0 : Int) < (out.length : Int)) = false := decide_eq_false (by omega)
              have hgt2 : decide (0 < out.length) = false := decide_eq_false (by omega)
              obtain ⟨n, hn⟩ : ∃ n, out.length = n := ⟨_, rfl⟩
              rw [hn] at k0 hgt hgt2
              have Hn := Lib.hid hn
              clear hE1 hE2 hE3 hE4 hokn hle hgo h2 hna hvb hn h0
              gi_wp2_with (first
                | (gi_at_call 17; refine (CallsIn.inRound l0 (callsIn_wide.2 (HW.out _))).mono ?_; rintro e w2 ⟨ad, cd, gd, rfl, hod, hgd, hB2⟩; have hz2 := hB2.size; have HB2 := Lib.hid hB2; have Hod := Lib.hid hod; clear hB2 hod hgd)
                | (gi_at_call 53; refine (CallsIn.inRound l0 (callsIn_wide.2 (HNum.out _ _ _ Hod.out.rd))).mono ?_; rintro e w3 ⟨an, cn, gn, rfl, hon, hgn, hB3⟩; have hB23 : Below W.heap.size W w3 := HB2.out.trans (hB3.mono hz2); have r0 := ((bcell hB23).1 _ 0 p0).trans k0; have g0 := ((bcell hB23).2 _ 0 p0).trans f0; have r1 := ((bcell hB23).1 _ 0 p1).trans k1; have r2 := ((bcell hB23).1 _ 0 p2).trans k2; have g1 := ((bcell hB23).2 _ 0 p1).trans f1; have g2 := ((bcell hB23).2 _ 0 p2).trans f2; have HB23 := Lib.hid hB23; have HB3 := Lib.hid hB3; have Hon := Lib.hid hon; have Hgn := Lib.hid hgn; clear hB3 hB23 hon hgn))
              obtain ⟨bn, hgn2, rfl, hbn⟩ := Hon.out.pos (by simp)
              have n0 := Hon.out.cell 0 (by simp)
              simp only [u32Vals, List.map_cons, List.getElem?_cons_zero] at n0
              subst hgn2
              refine quiet_round (by kernel_rfl) (by kernel_rfl) (by kernel_rfl) ?_
              repeat (gi_big_quiet_step (fail))
              refine wpQuietIn_nil ?_
              intro _ hw'
              obtain ⟨nq, hw''⟩ := hw'
              subst hw''
              gi_wp2_with fail
              obtain ⟨css, hown0, hall⟩ := H5.out.own
              have Hall := Lib.hid hall
              have hown1 : Own W _ cap' g 64 2 out.length css.flatten := hown0
              rw [Hn.out] at hown1
              have Hown3 := Lib.hid (hown1.ext HB23.out)
              have hgs : g ≠ some w.heap.size := fun e => by have := (H7.out _ e).2; omega
              have Hgs := Lib.hid hgs
              have hw0 : (0 : Int) < (ws.length : Int) := by omega
              have hw1 : (1 : Int) ≤ (ws.length : Int) := by omega
              have hw0' : 0 < ws.length := by omega
              have hv1 : ws.length - 1 = vs.length := by omega
              have hw1' : 1 ≤ ws.length := by omega
              have hcn := Hon.out.capLe
              have hcn1 : ¬ cn = 1 := by simp at hcn; omega
              have hw3 : w.heap.size < w3.heap.size := by have := HB23.out.size; omega
              have hw3n : ¬ w.heap.size = w3.heap.size := by omega
              have hw3m : ¬ w3.heap.size = w.heap.size := by omega
              have hnb : n ≤ 1073741000 := by have := Hol.out; have := Hn.out; omega
              clear hown0 hall hown1 hgs hcn
              refine wpIn_region_any (by kernel_rfl) (anyIn_round _ rfl (by kernel_rfl) _ _ _ _ ?_)
              change wpAnyIn _ _ _ _ _ _ _ _ _ (World.drew _)
              refine wpAnyIn_take (i := 1) (v := ?_) rfl rfl (by kernel_rfl) (by kernel_rfl) (by kernel_rfl) (fun _ _ _ h => h) ⟨Or.inl ⟨by rfl, ?_⟩, fun _ => rfl⟩ ?_
              rotate_left
              · (intro w; go_simp; try (with_reducible rfl))
              refine wpAnyIn_take (i := 4) (v := ?_) rfl rfl (by kernel_rfl) (by kernel_rfl) (by kernel_rfl) (fun _ _ _ h => h) ⟨Or.inl ⟨by rfl, ?_⟩, fun _ => rfl⟩ ?_
              rotate_left
              · (intro w; go_simp; try (with_reducible rfl))
              refine wpAnyIn_take (i := 2) (v := ?_) rfl rfl (by kernel_rfl) (by kernel_rfl) (by kernel_rfl) (fun _ _ _ h => h) ⟨Or.inl ⟨by rfl, ?_⟩, fun _ => rfl⟩ ?_
              rotate_left
              · (intro w; go_simp; try (with_reducible rfl))
              refine wpAnyIn_take (i := 5) (v := ?_) rfl rfl (by kernel_rfl) (by kernel_rfl) (by kernel_rfl) (fun _ _ _ h => h) ⟨Or.inl ⟨by rfl, ?_⟩, fun _ => rfl⟩ ?_
              rotate_left
              · (intro w; go_simp; try (with_reducible rfl))
              refine wpAnyIn_ready (rs := [0, 3]) (by kernel_rfl) (by simp) ?_
              refine AllReadyIn.cons rfl (fun K hK => ?_) ?_
              · go_simp
                refine hK _ _ ?_
                clear hK K
                refine wpAnyIn_ready (rs := [3]) (by kernel_rfl) (by simp) ?_
                refine AllReadyIn.cons rfl (fun K hK => ?_) ?_
                · go_simp
                  refine hK _ _ ?_
                  clear hK K
                  refine wpAnyIn_take (i := 6) (v := ?_) rfl rfl (by kernel_rfl) (by kernel_rfl) (by kernel_rfl) (fun _ _ _ h => h) ⟨Or.inl ⟨by rfl, ?_⟩, fun _ => rfl⟩ ?_
                  rotate_left
                  · (intro w; go_simp; try (with_reducible rfl))
                  refine wpAnyIn_ready (rs := [7]) (by kernel_rfl) (by simp) ?_
                  refine AllReadyIn.cons rfl (fun K hK => ?_) ?_
                  · go_simp
                    refine hK _ _ ?_
                    clear hK K
                    refine wpAnyIn_ready (rs := [8]) (by kernel_rfl) (by simp) ?_
                    refine AllReadyIn.cons rfl (fun K hK => ?_) ?_
                    · refine step_appIn (fun _ => trivial) rfl (.tmp 56) (.tmp 63) 49 49 rfl hE (((Hown3.out.ext (ext_drewN _ _)).ext (ext_drew _)).alloc _) rfl rfl (srcManyAt Try.underlying49 _ _ _ _ 2 _ (by simp) rfl (by simp [Value.oneCell'])) (by simp [maxLen]; omega) (by omega) ?_
                      intro ao5 cap5 g5 W5 ho5 hg5 hon5
                      have e0 := hon5.cell (b := w.heap.size) (by simp; omega) Hgs.out 0
                      have j0 := hon5.frozen (b := w.heap.size) (by simp; omega) Hgs.out 0
                      simp [go_sem, ↓IntWalk.iteOmega, r0, g0] at e0 j0
                      have Ho5 := Lib.hid ho5
                      have Hg5 := Lib.hid hg5
                      have Hon5 := Lib.hid hon5
                      clear ho5 hg5 hon5
                      refine hK _ _ ?_
                      clear hK K
                      refine wpAnyIn_ready (rs := [9]) (by kernel_rfl) (by simp) ?_
                      refine AllReadyIn.cons rfl (fun K hK => ?_) ?_
                      · go_simp
                        refine hK _ _ ?_
                        clear hK K
                        refine wpAnyIn_done (by kernel_rfl) ?_ _
                        gi_wp2_with fail
                        refine read_more Hgo2.out Hol.out Hn.out (HB1.out.trans (Hor.out.below (by omega) (by rintro k hk (h | h) <;> first | omega | exact h))) hsW HB2.out HB3.out Hall.out H6.out H7.out q0 q1 q2 Hfl.out Hon.out (Hgn.out _ rfl) Hvb.out (by rw [Hn.out]; exact Ho5.out) (fun b h => by rcases Hg5.out with e | e <;> rw [e] at h <;> first | exact .inl h | (cases h; right; simp)) ((Only.of_below ((ext_drewN w3 (nq + 1)).alloc (by simp) _)).trans Hon5.out (fun _ _ h => h)) ⟨k0, k1, k2⟩ ⟨f0, f1, f2⟩
                      · exact AllReadyIn.nil
                    · exact AllReadyIn.nil
                  · exact AllReadyIn.nil
                · exact AllReadyIn.nil
              · refine AllReadyIn.cons rfl (fun K hK => ?_) AllReadyIn.nil
                go_simp
                refine hK _ _ ?_
                clear hK K
                refine wpAnyIn_take (i := 6) (v := ?_) rfl rfl (by kernel_rfl) (by kernel_rfl) (by kernel_rfl) (fun _ _ _ h => h) ⟨Or.inl ⟨by rfl, ?_⟩, fun _ => rfl⟩ ?_
                rotate_left
                · (intro w; go_simp; try (with_reducible rfl))
                refine wpAnyIn_ready (rs := [0, 7]) (by kernel_rfl) (by simp) ?_
                refine AllReadyIn.cons rfl (fun K hK => ?_) ?_
                · go_simp
                  refine hK _ _ ?_
                  clear hK K
                  refine wpAnyIn_ready (rs := [7]) (by kernel_rfl) (by simp) ?_
                  refine AllReadyIn.cons rfl (fun K hK => ?_) ?_
                  · go_simp
                    refine hK _ _ ?_
                    clear hK K
                    refine wpAnyIn_ready (rs := [8]) (by kernel_rfl) (by simp) ?_
                    refine AllReadyIn.cons rfl (fun K hK => ?_) ?_
                    · refine step_appIn (fun _ => trivial) rfl (.tmp 56) (.tmp 63) 49 49 rfl hE (((Hown3.out.ext (ext_drewN _ _)).ext (ext_drew _)).alloc _) rfl rfl (srcManyAt Try.underlying49 _ _ _ _ 2 _ (by simp) rfl (by simp [Value.oneCell'])) (by simp [maxLen]; omega) (by omega) ?_
                      intro ao5 cap5 g5 W5 ho5 hg5 hon5
                      have e0 := hon5.cell (b := w.heap.size) (by simp; omega) Hgs.out 0
                      have j0 := hon5.frozen (b := w.heap.size) (by simp; omega) Hgs.out 0
                      simp [go_sem, ↓IntWalk.iteOmega, r0, g0] at e0 j0
                      have Ho5 := Lib.hid ho5
                      have Hg5 := Lib.hid hg5
                      have Hon5 := Lib.hid hon5
                      clear ho5 hg5 hon5
                      refine hK _ _ ?_
                      clear hK K
                      refine wpAnyIn_ready (rs := [9]) (by kernel_rfl) (by simp) ?_
                      refine AllReadyIn.cons rfl (fun K hK => ?_) ?_
                      · go_simp
                        refine hK _ _ ?_
                        clear hK K
                        refine wpAnyIn_done (by kernel_rfl) ?_ _
                        gi_wp2_with fail
                        refine read_more Hgo2.out Hol.out Hn.out (HB1.out.trans (Hor.out.below (by omega) (by rintro k hk (h | h) <;> first | omega | exact h))) hsW HB2.out HB3.out Hall.out H6.out H7.out q0 q1 q2 Hfl.out Hon.out (Hgn.out _ rfl) Hvb.out (by rw [Hn.out]; exact Ho5.out) (fun b h => by rcases Hg5.out with e | e <;> rw [e] at h <;> first | exact .inl h | (cases h; right; simp)) ((Only.of_below ((ext_drewN w3 (nq + 1)).alloc (by simp) _)).trans Hon5.out (fun _ _ h => h)) ⟨k0, k1, k2⟩ ⟨f0, f1, f2⟩
                      · exact AllReadyIn.nil
                    · exact AllReadyIn.nil
                  · exact AllReadyIn.nil
                · refine AllReadyIn.cons rfl (fun K hK => ?_) AllReadyIn.nil
                  go_simp
                  refine hK _ _ ?_
                  clear hK K
                  refine wpAnyIn_ready (rs := [0]) (by kernel_rfl) (by simp) ?_
                  refine AllReadyIn.cons rfl (fun K hK => ?_) ?_
                  · go_simp
                    refine hK _ _ ?_
                    clear hK K
                    refine wpAnyIn_ready (rs := [8]) (by kernel_rfl) (by simp) ?_
                    refine AllReadyIn.cons rfl (fun K hK => ?_) ?_
                    · refine step_appIn (fun _ => trivial) rfl (.tmp 56) (.tmp 63) 49 49 rfl hE (((Hown3.out.ext (ext_drewN _ _)).ext (ext_drew _)).alloc _) rfl rfl (srcManyAt Try.underlying49 _ _ _ _ 2 _ (by simp) rfl (by simp [Value.oneCell'])) (by simp [maxLen]; omega) (by omega) ?_
                      intro ao5 cap5 g5 W5 ho5 hg5 hon5
                      have e0 := hon5.cell (b := w.heap.size) (by simp; omega) Hgs.out 0
                      have j0 := hon5.frozen (b := w.heap.size) (by simp; omega) Hgs.out 0
                      simp [go_sem, ↓IntWalk.iteOmega, r0, g0] at e0 j0
                      have Ho5 := Lib.hid ho5
                      have Hg5 := Lib.hid hg5
                      have Hon5 := Lib.hid hon5
                      clear ho5 hg5 hon5
                      refine hK _ _ ?_
                      clear hK K
                      refine wpAnyIn_ready (rs := [9]) (by kernel_rfl) (by simp) ?_
                      refine AllReadyIn.cons rfl (fun K hK => ?_) ?_
                      · go_simp
                        refine hK _ _ ?_
                        clear hK K
                        refine wpAnyIn_done (by kernel_rfl) ?_ _
                        gi_wp2_with fail
                        refine read_more Hgo2.out Hol.out Hn.out (HB1.out.trans (Hor.out.below (by omega) (by rintro k hk (h | h) <;> first | omega | exact h))) hsW HB2.out HB3.out Hall.out H6.out H7.out q0 q1 q2 Hfl.out Hon.out (Hgn.out _ rfl) Hvb.out (by rw [Hn.out]; exact Ho5.out) (fun b h => by rcases Hg5.out with e | e <;> rw [e] at h <;> first | exact .inl h | (cases h; right; simp)) ((Only.of_below ((ext_drewN w3 (nq + 1)).alloc (by simp) _)).trans Hon5.out (fun _ _ h => h)) ⟨k0, k1, k2⟩ ⟨f0, f1, f2⟩
                      · exact AllReadyIn.nil
                    · exact AllReadyIn.nil
                  · exact AllReadyIn.nil
            · obtain ⟨bo, oo, ap, cp, rfl, hbo, hco, _, _, _, _⟩ := H5.out.rd.path i hi
              rw [hoi] at k0
              have hgt : decide ((0 : Int) < ((i + 1 : Nat) : Int)) = true := decide_eq_true (by omega)
              have hsub : ((i + 1 : Nat) : Int) - 1 = (i : Nat) := by omega
              have hib : (i : Int) < ((i + 1 : Nat) : Int) := by omega
              have hib2 : i ≤ 1073741000 := by have := Hol.out; omega
              obtain ⟨q, hq⟩ : ∃ q, out[i].1 = q := ⟨_, rfl⟩
              rw [hq] at hco hvi
              have ht1 : decide ((v : Int) ≤ (q : Int)) = false := decide_eq_false (by omega)
              have ht2 : decide (v ≤ q) = false := decide_eq_false (by omega)
              have Hco := Lib.hid hco
              have Hn := Lib.hid hoi
              clear hE1 hE2 hE3 hE4 hokn hle hgo h2 hoi hvi hna hq hco hvb
              gi_wp2_with (first
                | (gi_at_call 17; refine (CallsIn.inRound l0 (callsIn_wide.2 (HW.out _))).mono ?_; rintro e w2 ⟨ad, cd, gd, rfl, hod, hgd, hB2⟩; have hz2 := hB2.size; have HB2 := Lib.hid hB2; have Hod := Lib.hid hod; clear hB2 hod hgd)
                | (gi_at_call 53; refine (CallsIn.inRound l0 (callsIn_wide.2 (HNum.out _ _ _ Hod.out.rd))).mono ?_; rintro e w3 ⟨an, cn, gn, rfl, hon, hgn, hB3⟩; have hB23 : Below W.heap.size W w3 := HB2.out.trans (hB3.mono hz2); have r0 := ((bcell hB23).1 _ 0 p0).trans k0; have g0 := ((bcell hB23).2 _ 0 p0).trans f0; have r1 := ((bcell hB23).1 _ 0 p1).trans k1; have r2 := ((bcell hB23).1 _ 0 p2).trans k2; have g1 := ((bcell hB23).2 _ 0 p1).trans f1; have g2 := ((bcell hB23).2 _ 0 p2).trans f2; have HB23 := Lib.hid hB23; have HB3 := Lib.hid hB3; have Hon := Lib.hid hon; have Hgn := Lib.hid hgn; clear hB3 hB23 hon hgn))
              obtain ⟨bn, hgn2, rfl, hbn⟩ := Hon.out.pos (by simp)
              have n0 := Hon.out.cell 0 (by simp)
              simp only [u32Vals, List.map_cons, List.getElem?_cons_zero] at n0
              have hco := ((bcell HB23.out).1 bo _ hbo).trans Hco.out
              subst hgn2
              refine quiet_round (by kernel_rfl) (by kernel_rfl) (by kernel_rfl) ?_
              repeat (gi_big_quiet_step (fail))
              refine wpQuietIn_nil ?_
              intro _ hw'
              obtain ⟨nq, hw''⟩ := hw'
              subst hw''
              gi_wp2_with fail
              clear hco hgt hsub hib ht1 ht2
              obtain ⟨css, hown0, hall⟩ := H5.out.own
              have Hall := Lib.hid hall
              have hown1 : Own W _ cap' g 64 2 out.length css.flatten := hown0
              rw [Hn.out] at hown1
              have Hown3 := Lib.hid (hown1.ext HB23.out)
              have hgs : g ≠ some w.heap.size := fun e => by have := (H7.out _ e).2; omega
              have Hgs := Lib.hid hgs
              have hw0 : (0 : Int) < (ws.length : Int) := by omega
              have hw1 : (1 : Int) ≤ (ws.length : Int) := by omega
              have hw0' : 0 < ws.length := by omega
              have hv1 : ws.length - 1 = vs.length := by omega
              have hw1' : 1 ≤ ws.length := by omega
              have hcn := Hon.out.capLe
              have hcn1 : ¬ cn = 1 := by simp at hcn; omega
              have hw3 : w.heap.size < w3.heap.size := by have := HB23.out.size; omega
              have hw3n : ¬ w.heap.size = w3.heap.size := by omega
              have hw3m : ¬ w3.heap.size = w.heap.size := by omega
              have hnb : i + 1 ≤ 1073741000 := by have := Hol.out; have := Hn.out; omega
              clear hown0 hall hown1 hgs hcn
              refine wpIn_region_any (by kernel_rfl) (anyIn_round _ rfl (by kernel_rfl) _ _ _ _ ?_)
              change wpAnyIn _ _ _ _ _ _ _ _ _ (World.drew _)
              refine wpAnyIn_take (i := 1) (v := ?_) rfl rfl (by kernel_rfl) (by kernel_rfl) (by kernel_rfl) (fun _ _ _ h => h) ⟨Or.inl ⟨by rfl, ?_⟩, fun _ => rfl⟩ ?_
              rotate_left
              · (intro w; go_simp; try (with_reducible rfl))
              refine wpAnyIn_take (i := 4) (v := ?_) rfl rfl (by kernel_rfl) (by kernel_rfl) (by kernel_rfl) (fun _ _ _ h => h) ⟨Or.inl ⟨by rfl, ?_⟩, fun _ => rfl⟩ ?_
              rotate_left
              · (intro w; go_simp; try (with_reducible rfl))
              refine wpAnyIn_take (i := 2) (v := ?_) rfl rfl (by kernel_rfl) (by kernel_rfl) (by kernel_rfl) (fun _ _ _ h => h) ⟨Or.inl ⟨by rfl, ?_⟩, fun _ => rfl⟩ ?_
              rotate_left
              · (intro w; go_simp; try (with_reducible rfl))
              refine wpAnyIn_take (i := 5) (v := ?_) rfl rfl (by kernel_rfl) (by kernel_rfl) (by kernel_rfl) (fun _ _ _ h => h) ⟨Or.inl ⟨by rfl, ?_⟩, fun _ => rfl⟩ ?_
              rotate_left
              · (intro w; go_simp; try (with_reducible rfl))
              refine wpAnyIn_ready (rs := [0, 3]) (by kernel_rfl) (by simp) ?_
              refine AllReadyIn.cons rfl (fun K hK => ?_) ?_
              · go_simp
                refine hK _ _ ?_
                clear hK K
                refine wpAnyIn_ready (rs := [3]) (by kernel_rfl) (by simp) ?_
                refine AllReadyIn.cons rfl (fun K hK => ?_) ?_
                · go_simp
                  refine hK _ _ ?_
                  clear hK K
                  refine wpAnyIn_take (i := 6) (v := ?_) rfl rfl (by kernel_rfl) (by kernel_rfl) (by kernel_rfl) (fun _ _ _ h => h) ⟨Or.inl ⟨by rfl, ?_⟩, fun _ => rfl⟩ ?_
                  rotate_left
                  · (intro w; go_simp; try (with_reducible rfl))
                  refine wpAnyIn_ready (rs := [7]) (by kernel_rfl) (by simp) ?_
                  refine AllReadyIn.cons rfl (fun K hK => ?_) ?_
                  · go_simp
                    refine hK _ _ ?_
                    clear hK K
                    refine wpAnyIn_ready (rs := [8]) (by kernel_rfl) (by simp) ?_
                    refine AllReadyIn.cons rfl (fun K hK => ?_) ?_
                    · refine step_appIn (fun _ => trivial) rfl (.tmp 56) (.tmp 63) 49 49 rfl hE (((Hown3.out.ext (ext_drewN _ _)).ext (ext_drew _)).alloc _) rfl rfl (srcManyAt Try.underlying49 _ _ _ _ 2 _ (by simp) rfl (by simp [Value.oneCell'])) (by simp [maxLen]; omega) (by omega) ?_
                      intro ao5 cap5 g5 W5 ho5 hg5 hon5
                      have e0 := hon5.cell (b := w.heap.size) (by simp; omega) Hgs.out 0
                      have j0 := hon5.frozen (b := w.heap.size) (by simp; omega) Hgs.out 0
                      simp [go_sem, ↓IntWalk.iteOmega, r0, g0] at e0 j0
                      have Ho5 := Lib.hid ho5
                      have Hg5 := Lib.hid hg5
                      have Hon5 := Lib.hid hon5
                      clear ho5 hg5 hon5
                      refine hK _ _ ?_
                      clear hK K
                      refine wpAnyIn_ready (rs := [9]) (by kernel_rfl) (by simp) ?_
                      refine AllReadyIn.cons rfl (fun K hK => ?_) ?_
                      · go_simp
                        refine hK _ _ ?_
                        clear hK K
                        refine wpAnyIn_done (by kernel_rfl) ?_ _
                        gi_wp2_with fail
                        refine read_more Hgo2.out Hol.out Hn.out (HB1.out.trans (Hor.out.below (by omega) (by rintro k hk (h | h) <;> first | omega | exact h))) hsW HB2.out HB3.out Hall.out H6.out H7.out q0 q1 q2 Hfl.out Hon.out (Hgn.out _ rfl) Hvb.out (by rw [Hn.out]; exact Ho5.out) (fun b h => by rcases Hg5.out with e | e <;> rw [e] at h <;> first | exact .inl h | (cases h; right; simp)) ((Only.of_below ((ext_drewN w3 (nq + 1)).alloc (by simp) _)).trans Hon5.out (fun _ _ h => h)) ⟨k0, k1, k2⟩ ⟨f0, f1, f2⟩
                      · exact AllReadyIn.nil
                    · exact AllReadyIn.nil
                  · exact AllReadyIn.nil
                · exact AllReadyIn.nil
              · refine AllReadyIn.cons rfl (fun K hK => ?_) AllReadyIn.nil
                go_simp
                refine hK _ _ ?_
                clear hK K
                refine wpAnyIn_take (i := 6) (v := ?_) rfl rfl (by kernel_rfl) (by kernel_rfl) (by kernel_rfl) (fun _ _ _ h => h) ⟨Or.inl ⟨by rfl, ?_⟩, fun _ => rfl⟩ ?_
                rotate_left
                · (intro w; go_simp; try (with_reducible rfl))
                refine wpAnyIn_ready (rs := [0, 7]) (by kernel_rfl) (by simp) ?_
                refine AllReadyIn.cons rfl (fun K hK => ?_) ?_
                · go_simp
                  refine hK _ _ ?_
                  clear hK K
                  refine wpAnyIn_ready (rs := [7]) (by kernel_rfl) (by simp) ?_
                  refine AllReadyIn.cons rfl (fun K hK => ?_) ?_
                  · go_simp
                    refine hK _ _ ?_
                    clear hK K
                    refine wpAnyIn_ready (rs := [8]) (by kernel_rfl) (by simp) ?_
                    refine AllReadyIn.cons rfl (fun K hK => ?_) ?_
                    · refine step_appIn (fun _ => trivial) rfl (.tmp 56) (.tmp 63) 49 49 rfl hE (((Hown3.out.ext (ext_drewN _ _)).ext (ext_drew _)).alloc _) rfl rfl (srcManyAt Try.underlying49 _ _ _ _ 2 _ (by simp) rfl (by simp [Value.oneCell'])) (by simp [maxLen]; omega) (by omega) ?_
                      intro ao5 cap5 g5 W5 ho5 hg5 hon5
                      have e0 := hon5.cell (b := w.heap.size) (by simp; omega) Hgs.out 0
                      have j0 := hon5.frozen (b := w.heap.size) (by simp; omega) Hgs.out 0
                      simp [go_sem, ↓IntWalk.iteOmega, r0, g0] at e0 j0
                      have Ho5 := Lib.hid ho5
                      have Hg5 := Lib.hid hg5
                      have Hon5 := Lib.hid hon5
                      clear ho5 hg5 hon5
                      refine hK _ _ ?_
                      clear hK K
                      refine wpAnyIn_ready (rs := [9]) (by kernel_rfl) (by simp) ?_
                      refine AllReadyIn.cons rfl (fun K hK => ?_) ?_
                      · go_simp
                        refine hK _ _ ?_
                        clear hK K
                        refine wpAnyIn_done (by kernel_rfl) ?_ _
                        gi_wp2_with fail
                        refine read_more Hgo2.out Hol.out Hn.out (HB1.out.trans (Hor.out.below (by omega) (by rintro k hk (h | h) <;> first | omega | exact h))) hsW HB2.out HB3.out Hall.out H6.out H7.out q0 q1 q2 Hfl.out Hon.out (Hgn.out _ rfl) Hvb.out (by rw [Hn.out]; exact Ho5.out) (fun b h => by rcases Hg5.out with e | e <;> rw [e] at h <;> first | exact .inl h | (cases h; right; simp)) ((Only.of_below ((ext_drewN w3 (nq + 1)).alloc (by simp) _)).trans Hon5.out (fun _ _ h => h)) ⟨k0, k1, k2⟩ ⟨f0, f1, f2⟩
                      · exact AllReadyIn.nil
                    · exact AllReadyIn.nil
                  · exact AllReadyIn.nil
                · refine AllReadyIn.cons rfl (fun K hK => ?_) AllReadyIn.nil
                  go_simp
                  refine hK _ _ ?_
                  clear hK K
                  refine wpAnyIn_ready (rs := [0]) (by kernel_rfl) (by simp) ?_
                  refine AllReadyIn.cons rfl (fun K hK => ?_) ?_
                  · go_simp
                    refine hK _ _ ?_
                    clear hK K
                    refine wpAnyIn_ready (rs := [8]) (by kernel_rfl) (by simp) ?_
                    refine AllReadyIn.cons rfl (fun K hK => ?_) ?_
                    · refine step_appIn (fun _ => trivial) rfl (.tmp 56) (.tmp 63) 49 49 rfl hE (((Hown3.out.ext (ext_drewN _ _)).ext (ext_drew _)).alloc _) rfl rfl (srcManyAt Try.underlying49 _ _ _ _ 2 _ (by simp) rfl (by simp [Value.oneCell'])) (by simp [maxLen]; omega) (by omega) ?_
                      intro ao5 cap5 g5 W5 ho5 hg5 hon5
                      have e0 := hon5.cell (b := w.heap.size) (by simp; omega) Hgs.out 0
                      have j0 := hon5.frozen (b := w.heap.size) (by simp; omega) Hgs.out 0
                      simp [go_sem, ↓IntWalk.iteOmega, r0, g0] at e0 j0
                      have Ho5 := Lib.hid ho5
                      have Hg5 := Lib.hid hg5
                      have Hon5 := Lib.hid hon5
                      clear ho5 hg5 hon5
                      refine hK _ _ ?_
                      clear hK K
                      refine wpAnyIn_ready (rs := [9]) (by kernel_rfl) (by simp) ?_
                      refine AllReadyIn.cons rfl (fun K hK => ?_) ?_
                      · go_simp
                        refine hK _ _ ?_
                        clear hK K
                        refine wpAnyIn_done (by kernel_rfl) ?_ _
                        gi_wp2_with fail
                        refine read_more Hgo2.out Hol.out Hn.out (HB1.out.trans (Hor.out.below (by omega) (by rintro k hk (h | h) <;> first | omega | exact h))) hsW HB2.out HB3.out Hall.out H6.out H7.out q0 q1 q2 Hfl.out Hon.out (Hgn.out _ rfl) Hvb.out (by rw [Hn.out]; exact Ho5.out) (fun b h => by rcases Hg5.out with e | e <;> rw [e] at h <;> first | exact .inl h | (cases h; right; simp)) ((Only.of_below ((ext_drewN w3 (nq + 1)).alloc (by simp) _)).trans Hon5.out (fun _ _ h => h)) ⟨k0, k1, k2⟩ ⟨f0, f1, f2⟩
                      · exact AllReadyIn.nil
                    · exact AllReadyIn.nil
                  · exact AllReadyIn.nil
      · have hle := hE2 h2 hE0
        have hgo := Hgo.out
        rw [readGo_bad (by omega), hle] at hgo
        have Hre := Lib.hid hgo.symm
        have hd3 : ((E : Int) == 0) = false := beq_eq_false_iff_ne.2 (by omega)
        have hd4 : ((E : Int) != 0) = true := by simp; omega
        have HE0 := Lib.hid hE0
        clear hE1 hE2 hE3 hE4 hokn hle hgo h2 hE0 hP
        gi_wp2_with (first
          | (gi_at_call 17; refine (CallsIn.inRound l0 (callsIn_wide.2 (HW.out _))).mono ?_; rintro e w2 ⟨ad, cd, gd, rfl, hod, hgd, hB2⟩; have hz2 := hB2.size; have HB2 := Lib.hid hB2; have Hod := Lib.hid hod; clear hB2 hod hgd)
          | (gi_at_call 53; refine (CallsIn.inRound l0 (callsIn_wide.2 (HNum.out _ _ _ Hod.out.rd))).mono ?_; rintro e w3 ⟨an, cn, gn, rfl, hon, hgn, hB3⟩; have hB23 : Below W.heap.size W w3 := HB2.out.trans (hB3.mono hz2); have r0 := ((bcell hB23).1 _ 0 p0).trans k0; have g0 := ((bcell hB23).2 _ 0 p0).trans f0; have r1 := ((bcell hB23).1 _ 0 p1).trans k1; have r2 := ((bcell hB23).1 _ 0 p2).trans k2; have g1 := ((bcell hB23).2 _ 0 p1).trans f1; have g2 := ((bcell hB23).2 _ 0 p2).trans f2; have HB23 := Lib.hid hB23; have HB3 := Lib.hid hB3; have Hon := Lib.hid hon; have Hgn := Lib.hid hgn; clear hB3 hB23 hon hgn))
        refine quiet_round (by kernel_rfl) (by kernel_rfl) (by kernel_rfl) ?_
        repeat (gi_big_quiet_step (fail))
        refine wpQuietIn_nil ?_
        intro _ hw'
        obtain ⟨nq, hw''⟩ := hw'
        subst hw''
        gi_wp2_with fail
        exact read_break Hre.out HE0.out q1 q2 (below_drewN HB23.out _) Hfl.out r1 r2
  case done =>
    rintro D xs fq W hD rfl ⟨out, ao', cap', g, fe, hol, hgo, ⟨k0, k1, k2⟩, ⟨f0, f1, f2⟩, h5, h6, h7, q0, q1, q2⟩ honly hfo hlt hnD hk
    rw [numFrom_length, List.drop_length] at hgo
    have Hgo := Lib.hid (show readL ls = (out, 0, 0) from hgo.symm)
    have hbW : Below w.heap.size w W := HB1.out.trans (honly.below (by omega) (by rintro k hk (h | h) <;> first | omega | exact h))
    have HbW := Lib.hid hbW
    have Hrd := Lib.hid h5.rd
    have Hcl := Lib.hid h5.capLe
    have H6 := Lib.hid h6
    have H7 := Lib.hid h7
    have Hnd := Lib.hid hnD
    have Hk := Lib.hid hk
    clear hgo hbW h5 h6 h7 hnD hk honly hfo hlt hit hol f0 f1 f2
    dsimp only
    gi_wp2_with fail
    change bodyPostM Fence.wide 0 Try.prog Try.f37 _ Exit.ret _ _
    refine leaveM1 (v := .tuple #[.slice ao' out.length cap', .int .i64 0, .int .i64 0]) Hk.out (by simp [results, Try.results37, go_sem]) ?_
    rw [Hgo.out]
    refine ⟨ao', cap', rfl, Hcl.out.1, Hcl.out.2, ?_, ext_put HbW.out (by omega)⟩
    refine (Hrd.out.keep (fun b hb hl => World.putObj_heap_other (fun e => ?_)) (by simp)).mono (fun b hb _ => by
      rcases hb with h | h
      · have := (H6.out b h).2.1; omega
      · have := (H7.out b h).2; omega)
    rcases hb with h | h
    · exact Hnd.out (e ▸ (H6.out b h).1)
    · exact Hnd.out (e ▸ (H7.out b h).1)
  case stop =>
    rintro D c xs fq W hD hok ⟨rfl, n, e, hre, hne, ⟨k1, k2⟩, q1, q2⟩ honly hfo hlt hnD hk
    have hbW : Below w.heap.size w W := HB1.out.trans (honly.below (by omega) (by rintro k hk (h | h) <;> first | omega | exact h))
    have HbW := Lib.hid hbW
    have Hre := Lib.hid hre
    have Hk := Lib.hid hk
    have hd2 : ((e : Int) != 0) = true := by simp; omega
    clear hbW hk honly hfo hlt hit hre hne hok hnD
    gi_wp2_with fail
    refine wpIn_wide.2 ?_
    go_quiet (fail)
    gi_wp2
    change bodyPostM Fence.wide 0 Try.prog Try.f37 _ Exit.ret _ _
    refine leaveM1 (v := .tuple #[.slice none 0 0, .int .i64 (n : Nat), .int .i64 (e : Nat)]) Hk.out (by simp [results, Try.results37, go_sem]) ?_
    rw [Hre.out]
    exact ⟨none, 0, rfl, Nat.le_refl _, by simp [maxLen], .inl rfl, ext_put (below_drewN HbW.out _) (by omega)⟩
end Go.Proofs.Ytbleacpdobjdaaa
