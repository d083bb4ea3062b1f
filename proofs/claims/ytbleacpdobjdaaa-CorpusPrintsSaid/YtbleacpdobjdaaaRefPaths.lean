/- The reference's Paths. -/
import Derived.Test.YtbleacpdobjdaaaCorpPaths
namespace Go.Proofs.Ytbleacpdobjdaaa
set_option linter.unusedSimpArgs false
set_option linter.unusedVariables false
open Go.RowKit

theorem u32Vals_one (l : List Nat) : ∀ u ∈ u32Vals l, u.oneCell' = true := by
  intro u hu
  simp only [u32Vals, List.mem_map] at hu
  obtain ⟨x, _, rfl⟩ := hu
  rfl
theorem RdS.rdU32 {fp : Nat → Prop} {w : World} {ao : Option Addr} {l : List Nat} (h : RdS Rep.u32 fp w ao l) : Rd w ao l.length (u32Vals l) := by
  refine ⟨by simp [u32Vals], ?_⟩
  rcases h with h | ⟨b, off, h1, h2, h3, h4⟩
  · subst h; exact .inl rfl
  · refine .inr ⟨b, off, h1, h3, fun j hj => ?_⟩
    obtain ⟨cs, ⟨rfl, _⟩, h6⟩ := h4 j l[j] (List.getElem?_eq_getElem hj)
    have h7 := h6 0 Nat.one_pos
    simp only [Rep.nat, Nat.mul_one, Nat.add_zero] at h7
    rw [h7]
    simp [u32Vals, hj]
theorem own_u32_ok {w : World} {ao : Option Addr} {cap : Nat} {g : Option Nat} {e : TypeId} {l : List Nat} (h : Own w ao cap g e 1 l.length (u32Vals l)) (hl : ∀ v ∈ l, v < 4294967296) {p : PathD} (hp : p.2 = l) (hi : p.1 < 4294967296) {fp : Nat → Prop} (hf : ∀ k, g = some k → fp k) :
    pathRep.ok w fp p [.int .u32 (p.1 : Nat), .slice ao l.length cap] := by
  subst hp
  exact pathRep_ok h.capLe.1 h.capLe.2 hi ((rdS_u32 h hl).mono (fun b hb _ => hf b hb))

theorem srcManyAt {P : Program} {tx e' : TypeId} (hk : P.underlying tx = some (.slice e')) (w : World) (cs : List Value) (t : TypeId) (k size n : Nat) (hn : n = w.heap.size) (hs : cs.length = size) (h1 : ∀ u ∈ cs, u.oneCell' = true) :
    Src P size tx (.slice (some ⟨n, 0, none⟩) 1 k) 1 cs (w.alloc (.cells cs.toArray t)) := by subst hn; exact srcMany hk w cs t k size hs h1
structure RpS (recs : List (List UInt8)) (w : World) (k : Nat) (done : List PathD) (st : Option PathD) (ao : Option Addr) (cap : Nat) (g : Option Nat) (fe : Nat → Prop) (wr : World) : Prop where
  hk : k ≤ recs.length
  go : paths recs = pathsGo done st (recs.drop k)
  len : (done ++ flushP st).length ≤ k
  at_ : (stAt st).length ≤ k
  own : OwnS pathRep fe wr ao cap g 64 (done ++ flushP st)
  fe1 : ∀ b, fe b → w.heap.size ≤ b ∧ b < wr.heap.size ∧ g ≠ some b
  g1 : ∀ b, g = some b → w.heap.size ≤ b
  below : Below w.heap.size w wr
  none0 : st = none → done = []
  okp : ∀ p, st = some p → okPath p
def rpI (recs : List (List UInt8)) (w : World) (i o : Value) (wr : World) : Prop :=
  ∃ k done st ao cap g fe, i = .int .i64 (k : Nat) ∧ o = .slice ao (done ++ flushP st).length cap ∧ RpS recs w k done st ao cap g fe wr
theorem RpS.ext {recs : List (List UInt8)} {w : World} {k : Nat} {done : List PathD} {st : Option PathD} {ao : Option Addr} {cap : Nat} {g : Option Nat} {fe : Nat → Prop} {wr wr' : World} (h : RpS recs w k done st ao cap g fe wr) (hB : Below wr.heap.size wr wr') : RpS recs w k done st ao cap g fe wr' :=
  ⟨h.hk, h.go, h.len, h.at_, h.own.ext hB, fun b hb => ⟨(h.fe1 b hb).1, Nat.lt_of_lt_of_le (h.fe1 b hb).2.1 hB.size, (h.fe1 b hb).2.2⟩, h.g1, h.below.trans (hB.mono h.below.size), h.none0, h.okp⟩
theorem RpS.last {recs : List (List UInt8)} {w : World} {k : Nat} {done : List PathD} {p : PathD} {ao : Option Addr} {cap : Nat} {g : Option Nat} {fe : Nat → Prop} {wr : World} (h : RpS recs w k done (some p) ao cap g fe wr) :
    ∃ b ap cp, ao = some ⟨b, 0, none⟩ ∧ g = some b ∧ b < wr.heap.size ∧ wr.cell? ⟨b, done.length * 2, none⟩ = some (.int .u32 (p.1 : Nat)) ∧ wr.cell? ⟨b, done.length * 2 + 1, none⟩ = some (.slice ap p.2.length cp) ∧ wr.frozen? ⟨b, done.length * 2, none⟩ = false ∧ wr.frozen? ⟨b, done.length * 2 + 1, none⟩ = false ∧ RdS Rep.u32 fe wr ap p.2 := by
  obtain ⟨css, ho, ha⟩ := h.own
  have hc := flatten_chunk pathRep fe wr ha done.length p (by simp [flushP])
  obtain ⟨cs, ⟨c, d, rfl, ⟨rfl, _⟩, ap, cp, rfl, h1, h2, h3⟩, h5⟩ := hc
  obtain ⟨b, hg, haa, hb⟩ := ho.pos (by simp [flushP])
  subst haa
  have h6 := h5 0 (by decide)
  have h7 := h5 1 (by decide)
  have e0 := ho.cell (done.length * 2) (by show _ < _ * 2; simp [flushP]; try omega)
  have e1 := ho.cell (done.length * 2 + 1) (by show _ < _ * 2; simp [flushP]; try omega)
  exact ⟨b, ap, cp, rfl, hg, hb, e0.trans h6, e1.trans h7, ho.frozen _, ho.frozen _, h3⟩

theorem RpS.step_goes {recs : List (List UInt8)} {w : World} {k : Nat} {done : List PathD} {p : PathD} {bo cap : Nat} {fe : Nat → Prop} {wr W5 : World} {r : List UInt8} {id step v : Nat} {ao5 : Option Addr} {cap5 : Nat} {g5 : Option Nat}
    (h : RpS recs w k done (some p) (some ⟨bo, 0, none⟩) cap (some bo) fe wr) (hk : k < recs.length) (hB : Below wr.heap.size wr W5) (hown : Own W5 ao5 cap5 g5 45 1 (p.2.length + 1) (u32Vals p.2 ++ [.int .u32 (v : Nat)])) (hg5 : ∀ k, g5 = some k → wr.heap.size ≤ k)
    (hgo : paths recs = pathsGo done (some p) (r :: recs.drop (k + 1))) (h12 : r.length = 12) (hk3 : keyOf r = (id, step, v)) (hid : id = p.1) (hst : step = p.2.length) (hv : v < 4294967296) :
    RpS recs w (k + 1) done (some (p.1, p.2 ++ [v])) (some ⟨bo, 0, none⟩) cap (some bo) (fun b => fe b ∨ g5 = some b) ((W5.setCell ⟨bo, done.length * 2, none⟩ (.int .u32 (id : Nat))).setCell ⟨bo, done.length * 2 + 1, none⟩ (.slice ao5 (p.2.length + 1) cap5)) := by
  subst hid hst
  have hbo : bo < wr.heap.size := h.own.lt bo rfl
  have hokp := h.okp p rfl
  have hsz : wr.heap.size ≤ W5.heap.size := hB.size
  have hown' : Own W5 ao5 cap5 g5 45 1 (p.2 ++ [v]).length (u32Vals (p.2 ++ [v])) := by simpa [u32Vals] using hown
  have hvs : ∀ x ∈ p.2 ++ [v], x < 4294967296 := fun x hx => by
    rcases List.mem_append.1 hx with h1 | h1
    · exact hokp.2 x h1
    · rw [List.mem_singleton.1 h1]; exact hv
  have hnb : ¬ (fe bo ∨ g5 = some bo) := by
    rintro (h1 | h1)
    · exact (h.fe1 bo h1).2.2 rfl
    · have := hg5 bo h1; omega
  have hO : OwnS pathRep (fun b => fe b ∨ g5 = some b) W5 (some ⟨bo, 0, none⟩) cap (some bo) 64 (done ++ [p]) := (h.own.ext hB).mono (fun b hb _ => .inl hb)
  have hS := hO.setLast (y := (p.1, p.2 ++ [v])) (cs := [.int .u32 (p.1 : Nat), .slice ao5 (p.2.length + 1) cap5]) (by
    have := own_u32_ok (fp := fun b => fe b ∨ g5 = some b) hown' hvs (p := (p.1, p.2 ++ [v])) rfl hokp.1 (fun k hk => .inr hk)
    simpa using this) hnb
  refine ⟨by omega, ?_, ?_, ?_, hS, fun b hb => ⟨?_, ?_, ?_⟩, h.g1, ?_, by simp, fun q hq => ?_⟩
  · rw [hgo]; conv => lhs; unfold pathsGo
    rw [if_neg (by simp [h12]), hk3]
    simp [goesOn, addTo]
  · have := h.len; simp [flushP] at this ⊢; omega
  · have := h.at_; simp [stAt] at this ⊢; omega
  · rcases hb with h1 | h1
    · exact (h.fe1 b h1).1
    · exact Nat.le_trans h.below.size (hg5 b h1)
  · simp only [World.size_setCell]
    rcases hb with h1 | h1
    · have := (h.fe1 b h1).2.1; omega
    · exact hown.lt b h1
  · rcases hb with h1 | h1
    · exact (h.fe1 b h1).2.2
    · intro e; cases e; exact hnb (.inr h1)
  · exact ((h.below.trans (hB.mono h.below.size)).setCell (h.g1 bo rfl) _).setCell (h.g1 bo rfl) _
  · simp only [Option.some.injEq] at hq
    subst hq
    exact ⟨hokp.1, hvs⟩

/-- a new path, its block, behind the others -/
theorem RpS.step_new {recs : List (List UInt8)} {w : World} {k : Nat} {done : List PathD} {st : Option PathD} {ao : Option Addr} {cap : Nat} {g : Option Nat} {fe : Nat → Prop} {wr W4 W5 : World} {r : List UInt8} {id step v : Nat} {ao5 : Option Addr} {cap5 B : Nat} {g5 : Option Nat}
    (h : RpS recs w k done st ao cap g fe wr) (hk : k < recs.length) {css : List (List Value)} (hall : All2 (fun x cs => pathRep.ok wr fe x cs) (done ++ flushP st) css) (hB : Below wr.heap.size wr W4) (hBv : W4.heap[B]? = some (.cells #[.int .u32 (v : Nat)] 45 (0, 0))) (hBs : wr.heap.size ≤ B)
    (hown : Own W5 ao5 cap5 g5 64 2 ((done ++ flushP st).length + 1) (css.flatten ++ [.int .u32 (id : Nat), .slice (some ⟨B, 0, none⟩) 1 1])) (hg5 : g5 = g ∨ ∃ b, g5 = some b ∧ W4.heap.size ≤ b) (hon : Only (fun k => g = some k) W4 W5)
    (hgo : paths recs = pathsGo done st (r :: recs.drop (k + 1))) (h12 : r.length = 12) (hk3 : keyOf r = (id, step, v)) (hid : id < 4294967296) (hv : v < 4294967296) (hng : goesOn st id step = false) (hns : startsNew st id step = true) :
    RpS recs w (k + 1) (done ++ flushP st) (some (id, [v])) ao5 cap5 g5 (fun b => fe b ∨ b = B) W5 := by
  have hBlt : B < W4.heap.size := (Array.getElem?_eq_some_iff.1 hBv).1
  have hsz : wr.heap.size ≤ W4.heap.size := hB.size
  have hsz5 : W4.heap.size ≤ W5.heap.size := hon.size
  have hgB : g ≠ some B := fun e => by have := h.own.lt B e; omega
  have hfe : ∀ b, (fe b ∨ b = B) → b < W4.heap.size ∧ g ≠ some b ∧ w.heap.size ≤ b := fun b hb => by
    rcases hb with h1 | rfl
    · have := (h.fe1 b h1).2.1; exact ⟨by omega, (h.fe1 b h1).2.2, (h.fe1 b h1).1⟩
    · exact ⟨hBlt, hgB, Nat.le_trans h.below.size hBs⟩
  have hrow : RdS Rep.u32 (fun b => fe b ∨ b = B) W4 (some ⟨B, 0, none⟩) [v] := by
    refine .inr ⟨B, 0, rfl, .inr rfl, hBlt, fun j x hx => ⟨[.int .u32 x], ⟨rfl, ?_⟩, fun i hi => ?_⟩⟩
    · obtain rfl := List.mem_singleton.1 (List.mem_of_getElem? hx); exact hv
    · have hi0 : i = 0 := by simp [Rep.nat] at hi; exact hi
      subst hi0
      have hj : j = 0 := by have := (List.getElem?_eq_some_iff.1 hx).1; simpa using this
      subst hj
      simp at hx
      subst hx
      rw [cell_of_row W4 B _ _ _ _ hBv]; simp
  have hrow5 : RdS Rep.u32 (fun b => fe b ∨ b = B) W5 (some ⟨B, 0, none⟩) [v] := hrow.keep (fun b hb hl => hon.same b hl (hfe b hb).2.1) hsz5
  have hS : OwnS pathRep (fun b => fe b ∨ b = B) W5 ao5 cap5 g5 64 ((done ++ flushP st) ++ [(id, [v])]) :=
    OwnS.snoc (w := W4) (forall2_imp (fun x cs h1 => pathRep.mono (pathRep.keep h1 (fun b hb hl => hB.block b hl) hsz) (fun b hb _ => .inl hb)) hall)
      (cs := [.int .u32 (id : Nat), .slice (some ⟨B, 0, none⟩) 1 1]) (pathRep_ok (by simp) (by simp [maxLen]) hid hrow5) hown (fun b hb hl => hon.same b hl (hfe b hb).2.1) hsz5
  refine ⟨by omega, ?_, ?_, by simp [stAt], hS, fun b hb => ⟨(hfe b hb).2.2, by have := (hfe b hb).1; omega, ?_⟩, fun b hb => ?_, ?_, by simp, fun q hq => ?_⟩
  · rw [hgo]; conv => lhs; unfold pathsGo
    rw [if_neg (by simp [h12]), hk3]
    simp only [hng, hns, if_true]
    simp
  · have := h.len; simp [flushP] at this ⊢; omega
  · rcases hg5 with rfl | ⟨c, rfl, hc⟩
    · exact (hfe b hb).2.1
    · intro e; cases e; have := (hfe _ hb).1; omega
  · rcases hg5 with rfl | ⟨c, rfl, hc⟩
    · exact h.g1 b hb
    · cases hb; have := h.below.size; omega
  · have hb4 := h.below.trans (hB.mono h.below.size)
    exact hb4.trans (hon.below (by have := hb4.size; omega) (fun k hk e => by have := h.g1 k e; omega))
  · simp only [Option.some.injEq] at hq
    subst hq
    exact ⟨hid, fun x hx => by rw [List.mem_singleton.1 hx]; exact hv⟩
theorem paths_bad {recs : List (List UInt8)} {done : List PathD} {st : Option PathD} {r : List UInt8} {l : List (List UInt8)} (hgo : paths recs = pathsGo done st (r :: l)) (h12 : r.length ≠ 12) : paths recs = ([], 3) := by
  rw [hgo]; unfold pathsGo; rw [if_pos h12]
theorem paths_state {recs : List (List UInt8)} {done : List PathD} {st : Option PathD} {r : List UInt8} {l : List (List UInt8)} {id step v : Nat} (hgo : paths recs = pathsGo done st (r :: l)) (h12 : r.length = 12) (hk3 : keyOf r = (id, step, v)) (hng : goesOn st id step = false) (hns : startsNew st id step = false) : paths recs = ([], 13) := by
  rw [hgo]; unfold pathsGo; rw [if_neg (by simp [h12]), hk3]; simp only [hng, hns]; rfl
theorem PathsRet.none {w W : World} {c n : Nat} {ao : Option Addr} {r : List PathD × Nat} (h : r = ([], n)) (hB : Below w.heap.size w W) (hc : c ≤ maxLen) : PathsRet r w (.returned (.tuple #[.slice ao 0 c, .int .i64 (n : Nat)])) W := by
  subst h; exact ⟨ao, c, rfl, by simp, hc, .inl rfl, hB⟩

set_option maxRecDepth 100000 in
set_option maxHeartbeats 3200000 in
theorem rpaths_any (recs : List (List UInt8)) (ao : Option Addr) (cap : Nat) (w : World) (hl : recs.length ≤ 1073741824) (hrd : RdS (Rep.slice Rep.u8) (fun k => k < w.heap.size) w ao recs) :
    Calls Try.prog 29 #[.slice ao recs.length cap] w (PathsRet (paths recs) w) := by
  have hE := pathElem
  have hEu := u32Elem
  have Hrd := Lib.hid hrd
  clear hrd
  go_enter Try.func29, Try.ntmps29
  go_wp2_with fail
  go_loopw [4, 13] (fun o i wr => rpI recs w i o wr) (fun _ i _ => recs.length - (intOf i).toNat)
  case atStart =>
    refine ⟨0, [], none, some ⟨w.heap.size, 0, none⟩, 0, some w.heap.size, fun _ => False, rfl, rfl, ⟨by omega, rfl, by simp [flushP], by simp [stAt], ⟨[], Own.empty w _ _, .nil⟩, fun b h => h.elim, fun b h => by cases h; omega, ext_alloc w _, fun _ => rfl, by simp⟩⟩
  case round =>
    obtain ⟨k, done, st, ao', cap', g, fe, rfl, rfl, hS⟩ := hrel
    have hk := hS.hk
    have HS := Lib.hid hS
    clear hS
    by_cases hlt : k < recs.length
    · obtain ⟨bb, off, cs, rfl, hbw, hbb, ⟨ra, rc, rfl, hrc1, hrc2, hrr⟩, hcell⟩ := (Hrd.out.below HS.out.below (fun _ h => h)).at k hlt
      have hce := hcell 0 Nat.one_pos
      simp only [Rep.slice, Nat.mul_one, Nat.add_zero, List.getElem?_cons_zero] at hce
      have hir : (k : Int) < (recs.length : Int) := by omega
      have hdr : recs.drop k = recs[k] :: recs.drop (k + 1) := List.drop_eq_getElem_cons hlt
      obtain ⟨r, hr⟩ : ∃ r, recs[k] = r := ⟨_, rfl⟩
      rw [hr] at hce hrr hrc1 hdr
      have hrd := hrr.rdU8
      have Hdr := Lib.hid hdr
      have hgo := HS.out.go
      rw [hdr] at hgo
      have Hgo := Lib.hid hgo
      clear hcell hrr hr hdr hgo
      by_cases h12 : r.length = 12
      · obtain ⟨⟨id, step, v⟩, hk3⟩ : ∃ x, keyOf r = x := ⟨_, rfl⟩
        have hO := rof_yes r ra rc wr h12 hrc1 hrd
        have hkk := (key3_keyOf r h12).2
        rw [hk3] at hO hkk
        simp only [edgeV] at hO
        simp only at hkk
        obtain ⟨hid, hstep, hv⟩ := hkk
        have HO := Lib.hid hO
        have Hk3 := Lib.hid hk3
        have H12 := Lib.hid h12
        clear hO hk3 h12 hrd hrc1
        cases st with
        | none =>
          obtain rfl := HS.out.none0 rfl
          obtain ⟨css, hown0, hall⟩ := HS.out.own
          have Hall := Lib.hid hall
          have hown : Own wr ao' cap' g 64 2 0 css.flatten := hown0
          have Hown := Lib.hid hown
          have hg1 := HS.out.g1
          clear hown0 hall hown
          simp only [flushP, List.append_nil, List.length_nil]
          have hng : goesOn none id step = false := rfl
          have Hng := Lib.hid hng
          by_cases hs0 : step = 0
          · have u1 : ((step : Int) != 0) = false := by simp [hs0]
            have hns : startsNew none id step = true := by simp [startsNew, hs0]
            have Hns := Lib.hid hns
            clear hs0 hns hng
            go_wp2_with (go_at_call 46; refine HO.out.mono ?_; rintro e W2 ⟨rfl, hB2⟩; have hs2 := hB2.size; have HB2 := Lib.hid hB2; clear hB2)
            obtain ⟨W3, hW3⟩ : ∃ W3, W2.alloc (Obj.cells #[Value.int IntKind.u32 (id : Nat), Value.int IntKind.u32 (step : Nat), Value.int IntKind.u32 (v : Nat)] 86) = W3 := ⟨_, rfl⟩
            have hB23 : Below W2.heap.size W2 W3 := by rw [← hW3]; exact ext_alloc _ _
            have x0 : W3.cell? ⟨W2.heap.size, 0, none⟩ = some (.int .u32 (id : Nat)) := by rw [← hW3]; simp [go_sem, ↓IntWalk.iteOmega]
            have x1 : W3.cell? ⟨W2.heap.size, 1, none⟩ = some (.int .u32 (step : Nat)) := by rw [← hW3]; simp [go_sem, ↓IntWalk.iteOmega]
            have x2 : W3.cell? ⟨W2.heap.size, 2, none⟩ = some (.int .u32 (v : Nat)) := by rw [← hW3]; simp [go_sem, ↓IntWalk.iteOmega]
            have hs3 : W2.heap.size + 1 ≤ W3.heap.size := by rw [← hW3]; simp
            rw [hW3]
            have hBr3 : Below wr.heap.size wr W3 := HB2.out.trans (hB23.mono HB2.out.size)
            have HB3 := Lib.hid hBr3
            clear hW3 hB23 hBr3
            clear hce
            go_quiet (fail)
            obtain ⟨WA, hWA⟩ : ∃ WA, W3.drewN nq = WA := ⟨_, rfl⟩
            have hBA : Below wr.heap.size wr WA := by rw [← hWA]; exact HB3.out.trans ((ext_drewN W3 nq).mono HB3.out.size)
            have x0' : WA.cell? ⟨W2.heap.size, 0, none⟩ = some (.int .u32 (id : Nat)) := by rw [← hWA]; simpa [go_sem] using x0
            have x1' : WA.cell? ⟨W2.heap.size, 1, none⟩ = some (.int .u32 (step : Nat)) := by rw [← hWA]; simpa [go_sem] using x1
            have x2' : WA.cell? ⟨W2.heap.size, 2, none⟩ = some (.int .u32 (v : Nat)) := by rw [← hWA]; simpa [go_sem] using x2
            rw [hWA]
            have HBA := Lib.hid hBA
            clear hWA hBA x0 x1 x2
            go_wp2_with fail
            go_quiet (fail)
            obtain ⟨WQ, hWQ⟩ : ∃ WQ, WA.drewN nq = WQ := ⟨_, rfl⟩
            have hBQ : Below wr.heap.size wr WQ := by rw [← hWQ]; exact HBA.out.trans ((ext_drewN WA nq).mono HBA.out.size)
            have x0 : WQ.cell? ⟨W2.heap.size, 0, none⟩ = some (.int .u32 (id : Nat)) := by rw [← hWQ]; simpa [go_sem] using x0'
            have x2 : WQ.cell? ⟨W2.heap.size, 2, none⟩ = some (.int .u32 (v : Nat)) := by rw [← hWQ]; simpa [go_sem] using x2'
            have hsq : W2.heap.size + 1 ≤ WQ.heap.size := by rw [← hWQ]; show _ ≤ WA.heap.size; have := World.block_lt_of_cell? WA _ x0'; simp at this; omega
            rw [hWQ]
            have HBQ := Lib.hid hBQ
            clear hWQ hBQ x0' x1' x2'
            go_wp2_with (at_builtin; refine wpList_app rfl (.tmp 91) (.tmp 98) 49 49 rfl hE ((((Hown.out.ext HBQ.out).alloc _).alloc _)) rfl rfl (srcManyAt Try.underlying49 (WQ.alloc (.cells #[.int .u32 (v : Nat)] 45)) [.int .u32 (id : Nat), .slice (some ⟨WQ.heap.size, 0, none⟩) 1 1] 64 1 2 (WQ.heap.size + 1) (by simp) rfl (by simp [Value.oneCell'])) (by simp [maxLen]; try omega) (by omega) ?_; intro ao5 cap5 g5 W5 ho5 hg5 hon5; have Ho5 := Lib.hid ho5; have Hg5 := Lib.hid hg5; have Hon5 := Lib.hid hon5; clear ho5 hg5 hon5)
            go_roundw
            case rel =>
              have hst := HS.out.step_new (B := WQ.heap.size) hlt Hall.out ((HBQ.out.alloc HBQ.out.size _).alloc (by have := HBQ.out.size; simp; omega) _) ((Below.heap_alloc _ _ _ (by simp)).trans (heap_alloc_new WQ _)) HBQ.out.size (by simpa [flushP] using Ho5.out) (by
                rcases Hg5.out with h | h
                · exact .inl h
                · exact .inr ⟨_, h, Nat.le_refl _⟩) Hon5.out Hgo.out H12.out Hk3.out hid hv Hng.out Hns.out
              exact ⟨k + 1, _, some (id, [v]), ao5, cap5, g5, _, by go_num, by simp [flushP], hst⟩
            case measure => simp [intOf]; omega
          · have u1 : ((step : Int) != 0) = true := by simp; omega
            have hns : startsNew none id step = false := by simp [startsNew, hs0]
            have Hns := Lib.hid hns
            clear hs0 hns hng
            go_wp2_with (go_at_call 46; refine HO.out.mono ?_; rintro e W2 ⟨rfl, hB2⟩; have hs2 := hB2.size; have HB2 := Lib.hid hB2; clear hB2)
            obtain ⟨W3, hW3⟩ : ∃ W3, W2.alloc (Obj.cells #[Value.int IntKind.u32 (id : Nat), Value.int IntKind.u32 (step : Nat), Value.int IntKind.u32 (v : Nat)] 86) = W3 := ⟨_, rfl⟩
            have hB23 : Below W2.heap.size W2 W3 := by rw [← hW3]; exact ext_alloc _ _
            have x0 : W3.cell? ⟨W2.heap.size, 0, none⟩ = some (.int .u32 (id : Nat)) := by rw [← hW3]; simp [go_sem, ↓IntWalk.iteOmega]
            have x1 : W3.cell? ⟨W2.heap.size, 1, none⟩ = some (.int .u32 (step : Nat)) := by rw [← hW3]; simp [go_sem, ↓IntWalk.iteOmega]
            have x2 : W3.cell? ⟨W2.heap.size, 2, none⟩ = some (.int .u32 (v : Nat)) := by rw [← hW3]; simp [go_sem, ↓IntWalk.iteOmega]
            have hs3 : W2.heap.size + 1 ≤ W3.heap.size := by rw [← hW3]; simp
            rw [hW3]
            have hBr3 : Below wr.heap.size wr W3 := HB2.out.trans (hB23.mono HB2.out.size)
            have HB3 := Lib.hid hBr3
            clear hW3 hB23 hBr3
            clear hce
            go_quiet (fail)
            obtain ⟨WA, hWA⟩ : ∃ WA, W3.drewN nq = WA := ⟨_, rfl⟩
            have hBA : Below wr.heap.size wr WA := by rw [← hWA]; exact HB3.out.trans ((ext_drewN W3 nq).mono HB3.out.size)
            have x0' : WA.cell? ⟨W2.heap.size, 0, none⟩ = some (.int .u32 (id : Nat)) := by rw [← hWA]; simpa [go_sem] using x0
            have x1' : WA.cell? ⟨W2.heap.size, 1, none⟩ = some (.int .u32 (step : Nat)) := by rw [← hWA]; simpa [go_sem] using x1
            have x2' : WA.cell? ⟨W2.heap.size, 2, none⟩ = some (.int .u32 (v : Nat)) := by rw [← hWA]; simpa [go_sem] using x2
            rw [hWA]
            have HBA := Lib.hid hBA
            clear hWA hBA x0 x1 x2
            go_wp2_with fail
            go_quiet (fail)
            obtain ⟨WQ, hWQ⟩ : ∃ WQ, WA.drewN nq = WQ := ⟨_, rfl⟩
            have hBQ : Below wr.heap.size wr WQ := by rw [← hWQ]; exact HBA.out.trans ((ext_drewN WA nq).mono HBA.out.size)
            have x0 : WQ.cell? ⟨W2.heap.size, 0, none⟩ = some (.int .u32 (id : Nat)) := by rw [← hWQ]; simpa [go_sem] using x0'
            have x2 : WQ.cell? ⟨W2.heap.size, 2, none⟩ = some (.int .u32 (v : Nat)) := by rw [← hWQ]; simpa [go_sem] using x2'
            have hsq : W2.heap.size + 1 ≤ WQ.heap.size := by rw [← hWQ]; show _ ≤ WA.heap.size; have := World.block_lt_of_cell? WA _ x0'; simp at this; omega
            rw [hWQ]
            have HBQ := Lib.hid hBQ
            clear hWQ hBQ x0' x1' x2'
            go_wp2_with fail
            go_ret2
            exact PathsRet.none (paths_state Hgo.out H12.out Hk3.out Hng.out Hns.out) ((HS.out.below.trans (HBQ.out.mono HS.out.below.size)).alloc (by have := HBQ.out.size; have := HS.out.below.size; omega) _) (by simp [maxLen])
        | some p =>
          obtain ⟨bo, ap, cp, rfl, rfl, hbo, hp0, hp1, hpf0, hpf1, hpr⟩ := HS.out.last
          have hlast : (done ++ flushP (some p)).length = done.length + 1 := by simp [flushP]
          rw [hlast]
          have hdl : done.length < 1073741824 := by have := HS.out.len; rw [hlast] at this; omega
          have hpl : p.2.length ≤ 1073741824 := by have := HS.out.at_; simp only [stAt] at this; omega
          have Hpr := Lib.hid hpr
          clear hpr hlast
          by_cases hg : goesOn (some p) id step = true
          · simp only [goesOn, Bool.and_eq_true, beq_iff_eq] at hg
            have Hgid := Lib.hid hg.1
            have Hgst := Lib.hid hg.2
            have t1 : ((p.1 : Int) == id) = true := by simp [hg.1]
            have t2 : ((p.2.length : Int) == step) = true := by simp [hg.2]
            clear hg
            have t3 : decide ((0 : Int) ≤ done.length) = true := by simp
            go_wp2_with (go_at_call 46; refine HO.out.mono ?_; rintro e W2 ⟨rfl, hB2⟩; have hs2 := hB2.size; have d0 := ((bcell hB2).1 _ _ hbo).trans hp0; have d1 := ((bcell hB2).1 _ _ hbo).trans hp1; have d2 := ((bcell hB2).2 _ _ hbo).trans hpf0; have d3 := ((bcell hB2).2 _ _ hbo).trans hpf1; have HB2 := Lib.hid hB2; clear hB2)
            obtain ⟨W3, hW3⟩ : ∃ W3, W2.alloc (Obj.cells #[Value.int IntKind.u32 (id : Nat), Value.int IntKind.u32 (step : Nat), Value.int IntKind.u32 (v : Nat)] 86) = W3 := ⟨_, rfl⟩
            have hB23 : Below W2.heap.size W2 W3 := by rw [← hW3]; exact ext_alloc _ _
            have x0 : W3.cell? ⟨W2.heap.size, 0, none⟩ = some (.int .u32 (id : Nat)) := by rw [← hW3]; simp [go_sem, ↓IntWalk.iteOmega]
            have x1 : W3.cell? ⟨W2.heap.size, 1, none⟩ = some (.int .u32 (step : Nat)) := by rw [← hW3]; simp [go_sem, ↓IntWalk.iteOmega]
            have x2 : W3.cell? ⟨W2.heap.size, 2, none⟩ = some (.int .u32 (v : Nat)) := by rw [← hW3]; simp [go_sem, ↓IntWalk.iteOmega]
            have hs3 : W2.heap.size + 1 ≤ W3.heap.size := by rw [← hW3]; simp
            rw [hW3]
            have hBr3 : Below wr.heap.size wr W3 := HB2.out.trans (hB23.mono HB2.out.size)
            have HB3 := Lib.hid hBr3
            clear hW3 hB23 hBr3
            have g0 := ((bcell HB3.out).1 _ _ hbo).trans hp0
            have g1 := ((bcell HB3.out).1 _ _ hbo).trans hp1
            have g2 := ((bcell HB3.out).2 _ _ hbo).trans hpf0
            have g3 := ((bcell HB3.out).2 _ _ hbo).trans hpf1
            clear hp0 hp1 hpf0 hpf1 d0 d1 d2 d3 hce
            go_quiet (fail)
            have HX0 := Lib.hid x0
            have HX1 := Lib.hid x1
            have HX2 := Lib.hid x2
            have HG0 := Lib.hid g0
            have HG2 := Lib.hid g2
            have HG3 := Lib.hid g3
            have Ho0 := Lib.hid (Own.emptyAt (W3.drewN nq) 45 1 W3.heap.size (by simp))
            have hku := Try.underlying62
            have Hku := Lib.hid hku
            have hb3 : bo < W3.heap.size := by have := HB3.out.size; omega
            clear x0 x1 x2 g0 g2 g3 hku
            go_wp2_with (at_builtin; refine wpList_app rfl (.tmp 55) (.tmp 60) 62 62 rfl hEu Ho0.out rfl rfl (((((Hpr.out.ext HB3.out).rdU32.ext (ext_drewN _ _)).ext (ext_alloc _ _))).src Hku.out cp (u32Vals_one _)) (by simp [maxLen]; omega) (by omega) ?_; intro ao4 cap4 g4 W4 ho4 hg4 hon4)
            rw [Nat.zero_add, List.nil_append] at ho4
            have hB34 : Below W3.heap.size W3 W4 := ((ext_drewN W3 nq).alloc (by simp) _).trans (hon4.below (by simp) (fun k hk e => by cases e; omega))
            have x0 := ((bcell hB34).1 W2.heap.size 0 (by omega)).trans HX0.out
            have x2 := ((bcell hB34).1 W2.heap.size 2 (by omega)).trans HX2.out
            have hg4' : ∀ k, g4 = some k → W3.heap.size ≤ k := fun k h => by rcases hg4 with rfl | rfl <;> cases h <;> simp
            have Ho4 := Lib.hid ho4
            have HB34 := Lib.hid hB34
            have Hg4 := Lib.hid hg4'
            have hs34 := hB34.size
            clear ho4 hg4 hon4 hB34 hg4'
            have hne : ¬ W2.heap.size = bo := by omega
            have hib : (done.length : Int) < ((done.length + 1 : Nat) : Int) := by omega
            have hib2 : (done.length : Int) < (done.length : Int) + 1 := by omega
            go_region_held3 (fun w' => w'.cell? ⟨W2.heap.size, 0, none⟩ = some (.int .u32 (id : Nat)) ∧ w'.cell? ⟨W2.heap.size, 2, none⟩ = some (.int .u32 (v : Nat))) (first | go_keep | (simp [cell_set_ite, *]))
              (first
                | (refine step_app rfl (.tmp 66) (.tmp 69) 62 62 rfl hEu ((Ho4.out.ext (ext_drew _)).alloc _) rfl rfl (srcOne Hku.out W4.drew (.int .u32 (v : Nat)) 45 1 rfl) (by simp [maxLen]; omega) (by omega) ?_; intro ao5 cap5 g5 W5 ho5 hg5 hon5; have hB35 : Below W3.heap.size W3 W5 := (((HB34.out.drew).alloc hs34 _).trans (hon5.below (by simp; omega) (fun k hk e => by have := Hg4.out k e; omega))); have y0 := ((bcell hB35).1 W2.heap.size 0 (by omega)).trans HX0.out; have y2 := ((bcell hB35).1 W2.heap.size 2 (by omega)).trans HX2.out; have z0 := ((bcell hB35).1 bo (done.length * 2) hb3).trans HG0.out; have z1 := ((bcell hB35).1 bo (done.length * 2 + 1) hb3).trans g1; have z2 := ((bcell hB35).2 bo (done.length * 2) hb3).trans HG2.out; have z3 := ((bcell hB35).2 bo (done.length * 2 + 1) hb3).trans HG3.out; have Ho5 := Lib.hid ho5; have Hg5 := Lib.hid hg5; have HB35 := Lib.hid hB35; clear ho5 hg5 hon5 hB35))
            go_wp2_with fail
            go_roundw
            case rel =>
              have hg5' : ∀ k, g5 = some k → wr.heap.size ≤ k := fun k h => by
                rcases Hg5.out with rfl | rfl
                · exact Nat.le_trans HB3.out.size (Hg4.out k h)
                · cases h; simp; omega
              have hst := HS.out.step_goes hlt (HB3.out.trans (HB35.out.mono HB3.out.size)) Ho5.out hg5' Hgo.out H12.out Hk3.out Hgid.out Hgst.out hv
              exact ⟨k + 1, done, some (p.1, p.2 ++ [v]), some ⟨bo, 0, none⟩, cap', some bo, _, by go_num, by simp [flushP], hst⟩
            case measure => simp [intOf]; omega
          · have hng : goesOn (some p) id step = false := by simpa using hg
            obtain ⟨css, hown0, hall⟩ := HS.out.own
            have Hall := Lib.hid hall
            have hown : Own wr (some ⟨bo, 0, none⟩) cap' (some bo) 64 2 (done.length + 1) css.flatten := by
              have e : (done ++ flushP (some p)).length = done.length + 1 := by simp [flushP]
              rw [e] at hown0; exact hown0
            have Hown := Lib.hid hown
            have Hng := Lib.hid hng
            have t3 : decide ((0 : Int) ≤ done.length) = true := by simp
            have hib : (done.length : Int) < ((done.length + 1 : Nat) : Int) := by omega
            have hib2 : (done.length : Int) < (done.length : Int) + 1 := by omega
            clear hown0 hall hown hg
            by_cases h1 : id = p.1
            · have h2 : ¬ step = p.2.length := fun e => by have := Hng.out; simp [goesOn, h1, e] at this
              have t1 : ((p.1 : Int) == id) = true := by simp [h1]
              have t2 : ((p.2.length : Int) == step) = false := by simp; omega
              have hns : startsNew (some p) id step = false := by simp [startsNew, h1]
              have Hns := Lib.hid hns
              have t4 : decide ((id : Int) ≤ p.1) = true := by simp; omega
              have t5 : decide (id ≤ p.1) = true := by simp; omega
              clear h1 h2 hns hng
              by_cases hs0 : step = 0
              · have u1 : ((step : Int) != 0) = false := by simp [hs0]
                clear hs0
                go_wp2_with (go_at_call 46; refine HO.out.mono ?_; rintro e W2 ⟨rfl, hB2⟩; have hs2 := hB2.size; have HB2 := Lib.hid hB2; clear hB2)
                obtain ⟨W3, hW3⟩ : ∃ W3, W2.alloc (Obj.cells #[Value.int IntKind.u32 (id : Nat), Value.int IntKind.u32 (step : Nat), Value.int IntKind.u32 (v : Nat)] 86) = W3 := ⟨_, rfl⟩
                have hB23 : Below W2.heap.size W2 W3 := by rw [← hW3]; exact ext_alloc _ _
                have x0 : W3.cell? ⟨W2.heap.size, 0, none⟩ = some (.int .u32 (id : Nat)) := by rw [← hW3]; simp [go_sem, ↓IntWalk.iteOmega]
                have x1 : W3.cell? ⟨W2.heap.size, 1, none⟩ = some (.int .u32 (step : Nat)) := by rw [← hW3]; simp [go_sem, ↓IntWalk.iteOmega]
                have x2 : W3.cell? ⟨W2.heap.size, 2, none⟩ = some (.int .u32 (v : Nat)) := by rw [← hW3]; simp [go_sem, ↓IntWalk.iteOmega]
                have hs3 : W2.heap.size + 1 ≤ W3.heap.size := by rw [← hW3]; simp
                rw [hW3]
                have hBr3 : Below wr.heap.size wr W3 := HB2.out.trans (hB23.mono HB2.out.size)
                have HB3 := Lib.hid hBr3
                clear hW3 hB23 hBr3
                clear hce
                have g0 := ((bcell HB3.out).1 _ _ hbo).trans hp0
                have g1 := ((bcell HB3.out).1 _ _ hbo).trans hp1
                clear hp0 hp1 hpf0 hpf1
                go_quiet (fail)
                obtain ⟨WA, hWA⟩ : ∃ WA, W3.drewN nq = WA := ⟨_, rfl⟩
                have hBA : Below wr.heap.size wr WA := by rw [← hWA]; exact HB3.out.trans ((ext_drewN W3 nq).mono HB3.out.size)
                have x0' : WA.cell? ⟨W2.heap.size, 0, none⟩ = some (.int .u32 (id : Nat)) := by rw [← hWA]; simpa [go_sem] using x0
                have x1' : WA.cell? ⟨W2.heap.size, 1, none⟩ = some (.int .u32 (step : Nat)) := by rw [← hWA]; simpa [go_sem] using x1
                have x2' : WA.cell? ⟨W2.heap.size, 2, none⟩ = some (.int .u32 (v : Nat)) := by rw [← hWA]; simpa [go_sem] using x2
                have g0' : WA.cell? ⟨bo, done.length * 2, none⟩ = some (.int .u32 (p.1 : Nat)) := (by rw [← hWA]; simpa [go_sem] using g0); have g1' : WA.cell? ⟨bo, done.length * 2 + 1, none⟩ = some (.slice ap p.2.length cp) := (by rw [← hWA]; simpa [go_sem] using g1); clear g0 g1
                rw [hWA]
                have HBA := Lib.hid hBA
                clear hWA hBA x0 x1 x2
                go_wp2_with fail
                go_quiet (fail)
                obtain ⟨WQ, hWQ⟩ : ∃ WQ, WA.drewN nq = WQ := ⟨_, rfl⟩
                have hBQ : Below wr.heap.size wr WQ := by rw [← hWQ]; exact HBA.out.trans ((ext_drewN WA nq).mono HBA.out.size)
                have x0 : WQ.cell? ⟨W2.heap.size, 0, none⟩ = some (.int .u32 (id : Nat)) := by rw [← hWQ]; simpa [go_sem] using x0'
                have x2 : WQ.cell? ⟨W2.heap.size, 2, none⟩ = some (.int .u32 (v : Nat)) := by rw [← hWQ]; simpa [go_sem] using x2'
                have hsq : W2.heap.size + 1 ≤ WQ.heap.size := by rw [← hWQ]; show _ ≤ WA.heap.size; have := World.block_lt_of_cell? WA _ x0'; simp at this; omega
                rw [hWQ]
                have HBQ := Lib.hid hBQ
                clear hWQ hBQ x0' x1' x2'
                go_wp2_with fail
                go_ret2
                exact PathsRet.none (paths_state Hgo.out H12.out Hk3.out Hng.out Hns.out) ((HS.out.below.trans (HBQ.out.mono HS.out.below.size)).alloc (by have := HBQ.out.size; have := HS.out.below.size; omega) _) (by simp [maxLen])
              · have u1 : ((step : Int) != 0) = true := by simp; omega
                clear hs0
                go_wp2_with (go_at_call 46; refine HO.out.mono ?_; rintro e W2 ⟨rfl, hB2⟩; have hs2 := hB2.size; have HB2 := Lib.hid hB2; clear hB2)
                obtain ⟨W3, hW3⟩ : ∃ W3, W2.alloc (Obj.cells #[Value.int IntKind.u32 (id : Nat), Value.int IntKind.u32 (step : Nat), Value.int IntKind.u32 (v : Nat)] 86) = W3 := ⟨_, rfl⟩
                have hB23 : Below W2.heap.size W2 W3 := by rw [← hW3]; exact ext_alloc _ _
                have x0 : W3.cell? ⟨W2.heap.size, 0, none⟩ = some (.int .u32 (id : Nat)) := by rw [← hW3]; simp [go_sem, ↓IntWalk.iteOmega]
                have x1 : W3.cell? ⟨W2.heap.size, 1, none⟩ = some (.int .u32 (step : Nat)) := by rw [← hW3]; simp [go_sem, ↓IntWalk.iteOmega]
                have x2 : W3.cell? ⟨W2.heap.size, 2, none⟩ = some (.int .u32 (v : Nat)) := by rw [← hW3]; simp [go_sem, ↓IntWalk.iteOmega]
                have hs3 : W2.heap.size + 1 ≤ W3.heap.size := by rw [← hW3]; simp
                rw [hW3]
                have hBr3 : Below wr.heap.size wr W3 := HB2.out.trans (hB23.mono HB2.out.size)
                have HB3 := Lib.hid hBr3
                clear hW3 hB23 hBr3
                clear hce
                have g0 := ((bcell HB3.out).1 _ _ hbo).trans hp0
                have g1 := ((bcell HB3.out).1 _ _ hbo).trans hp1
                clear hp0 hp1 hpf0 hpf1
                go_quiet (fail)
                obtain ⟨WA, hWA⟩ : ∃ WA, W3.drewN nq = WA := ⟨_, rfl⟩
                have hBA : Below wr.heap.size wr WA := by rw [← hWA]; exact HB3.out.trans ((ext_drewN W3 nq).mono HB3.out.size)
                have x0' : WA.cell? ⟨W2.heap.size, 0, none⟩ = some (.int .u32 (id : Nat)) := by rw [← hWA]; simpa [go_sem] using x0
                have x1' : WA.cell? ⟨W2.heap.size, 1, none⟩ = some (.int .u32 (step : Nat)) := by rw [← hWA]; simpa [go_sem] using x1
                have x2' : WA.cell? ⟨W2.heap.size, 2, none⟩ = some (.int .u32 (v : Nat)) := by rw [← hWA]; simpa [go_sem] using x2
                have g0' : WA.cell? ⟨bo, done.length * 2, none⟩ = some (.int .u32 (p.1 : Nat)) := (by rw [← hWA]; simpa [go_sem] using g0); have g1' : WA.cell? ⟨bo, done.length * 2 + 1, none⟩ = some (.slice ap p.2.length cp) := (by rw [← hWA]; simpa [go_sem] using g1); clear g0 g1
                rw [hWA]
                have HBA := Lib.hid hBA
                clear hWA hBA x0 x1 x2
                go_wp2_with fail
                go_quiet (fail)
                obtain ⟨WQ, hWQ⟩ : ∃ WQ, WA.drewN nq = WQ := ⟨_, rfl⟩
                have hBQ : Below wr.heap.size wr WQ := by rw [← hWQ]; exact HBA.out.trans ((ext_drewN WA nq).mono HBA.out.size)
                have x0 : WQ.cell? ⟨W2.heap.size, 0, none⟩ = some (.int .u32 (id : Nat)) := by rw [← hWQ]; simpa [go_sem] using x0'
                have x2 : WQ.cell? ⟨W2.heap.size, 2, none⟩ = some (.int .u32 (v : Nat)) := by rw [← hWQ]; simpa [go_sem] using x2'
                have hsq : W2.heap.size + 1 ≤ WQ.heap.size := by rw [← hWQ]; show _ ≤ WA.heap.size; have := World.block_lt_of_cell? WA _ x0'; simp at this; omega
                rw [hWQ]
                have HBQ := Lib.hid hBQ
                clear hWQ hBQ x0' x1' x2'
                go_wp2_with fail
                go_ret2
                exact PathsRet.none (paths_state Hgo.out H12.out Hk3.out Hng.out Hns.out) ((HS.out.below.trans (HBQ.out.mono HS.out.below.size)).alloc (by have := HBQ.out.size; have := HS.out.below.size; omega) _) (by simp [maxLen])
            · have t1 : ((p.1 : Int) == id) = false := by simp; omega
              clear hng
              by_cases hs0 : step = 0
              · have u1 : ((step : Int) != 0) = false := by simp [hs0]
                by_cases hlt2 : p.1 < id
                · have t4 : decide ((id : Int) ≤ p.1) = false := by simp; omega
                  have t5 : decide (id ≤ p.1) = false := by simp; omega
                  have hns : startsNew (some p) id step = true := by simp [startsNew, hs0, hlt2]
                  have Hns := Lib.hid hns
                  clear hs0 h1 hlt2 hns
                  go_wp2_with (go_at_call 46; refine HO.out.mono ?_; rintro e W2 ⟨rfl, hB2⟩; have hs2 := hB2.size; have HB2 := Lib.hid hB2; clear hB2)
                  obtain ⟨W3, hW3⟩ : ∃ W3, W2.alloc (Obj.cells #[Value.int IntKind.u32 (id : Nat), Value.int IntKind.u32 (step : Nat), Value.int IntKind.u32 (v : Nat)] 86) = W3 := ⟨_, rfl⟩
                  have hB23 : Below W2.heap.size W2 W3 := by rw [← hW3]; exact ext_alloc _ _
                  have x0 : W3.cell? ⟨W2.heap.size, 0, none⟩ = some (.int .u32 (id : Nat)) := by rw [← hW3]; simp [go_sem, ↓IntWalk.iteOmega]
                  have x1 : W3.cell? ⟨W2.heap.size, 1, none⟩ = some (.int .u32 (step : Nat)) := by rw [← hW3]; simp [go_sem, ↓IntWalk.iteOmega]
                  have x2 : W3.cell? ⟨W2.heap.size, 2, none⟩ = some (.int .u32 (v : Nat)) := by rw [← hW3]; simp [go_sem, ↓IntWalk.iteOmega]
                  have hs3 : W2.heap.size + 1 ≤ W3.heap.size := by rw [← hW3]; simp
                  rw [hW3]
                  have hBr3 : Below wr.heap.size wr W3 := HB2.out.trans (hB23.mono HB2.out.size)
                  have HB3 := Lib.hid hBr3
                  clear hW3 hB23 hBr3
                  clear hce
                  have g0 := ((bcell HB3.out).1 _ _ hbo).trans hp0
                  have g1 := ((bcell HB3.out).1 _ _ hbo).trans hp1
                  clear hp0 hp1 hpf0 hpf1
                  go_quiet (fail)
                  obtain ⟨WA, hWA⟩ : ∃ WA, W3.drewN nq = WA := ⟨_, rfl⟩
                  have hBA : Below wr.heap.size wr WA := by rw [← hWA]; exact HB3.out.trans ((ext_drewN W3 nq).mono HB3.out.size)
                  have x0' : WA.cell? ⟨W2.heap.size, 0, none⟩ = some (.int .u32 (id : Nat)) := by rw [← hWA]; simpa [go_sem] using x0
                  have x1' : WA.cell? ⟨W2.heap.size, 1, none⟩ = some (.int .u32 (step : Nat)) := by rw [← hWA]; simpa [go_sem] using x1
                  have x2' : WA.cell? ⟨W2.heap.size, 2, none⟩ = some (.int .u32 (v : Nat)) := by rw [← hWA]; simpa [go_sem] using x2
                  have g0' : WA.cell? ⟨bo, done.length * 2, none⟩ = some (.int .u32 (p.1 : Nat)) := (by rw [← hWA]; simpa [go_sem] using g0); have g1' : WA.cell? ⟨bo, done.length * 2 + 1, none⟩ = some (.slice ap p.2.length cp) := (by rw [← hWA]; simpa [go_sem] using g1); clear g0 g1
                  rw [hWA]
                  have HBA := Lib.hid hBA
                  clear hWA hBA x0 x1 x2
                  go_wp2_with fail
                  go_quiet (fail)
                  obtain ⟨WQ, hWQ⟩ : ∃ WQ, WA.drewN nq = WQ := ⟨_, rfl⟩
                  have hBQ : Below wr.heap.size wr WQ := by rw [← hWQ]; exact HBA.out.trans ((ext_drewN WA nq).mono HBA.out.size)
                  have x0 : WQ.cell? ⟨W2.heap.size, 0, none⟩ = some (.int .u32 (id : Nat)) := by rw [← hWQ]; simpa [go_sem] using x0'
                  have x2 : WQ.cell? ⟨W2.heap.size, 2, none⟩ = some (.int .u32 (v : Nat)) := by rw [← hWQ]; simpa [go_sem] using x2'
                  have hsq : W2.heap.size + 1 ≤ WQ.heap.size := by rw [← hWQ]; show _ ≤ WA.heap.size; have := World.block_lt_of_cell? WA _ x0'; simp at this; omega
                  rw [hWQ]
                  have HBQ := Lib.hid hBQ
                  clear hWQ hBQ x0' x1' x2'
                  go_wp2_with (at_builtin; refine wpList_app rfl (.tmp 91) (.tmp 98) 49 49 rfl hE ((((Hown.out.ext HBQ.out).alloc _).alloc _)) rfl rfl (srcManyAt Try.underlying49 (WQ.alloc (.cells #[.int .u32 (v : Nat)] 45)) [.int .u32 (id : Nat), .slice (some ⟨WQ.heap.size, 0, none⟩) 1 1] 64 1 2 (WQ.heap.size + 1) (by simp) rfl (by simp [Value.oneCell'])) (by simp [maxLen]; try omega) (by omega) ?_; intro ao5 cap5 g5 W5 ho5 hg5 hon5; have Ho5 := Lib.hid ho5; have Hg5 := Lib.hid hg5; have Hon5 := Lib.hid hon5; clear ho5 hg5 hon5)
                  go_roundw
                  case rel =>
                    have hst := HS.out.step_new (B := WQ.heap.size) hlt Hall.out ((HBQ.out.alloc HBQ.out.size _).alloc (by have := HBQ.out.size; simp; omega) _) ((Below.heap_alloc _ _ _ (by simp)).trans (heap_alloc_new WQ _)) HBQ.out.size (by simpa [flushP] using Ho5.out) (by
                      rcases Hg5.out with h | h
                      · exact .inl h
                      · exact .inr ⟨_, h, Nat.le_refl _⟩) Hon5.out Hgo.out H12.out Hk3.out hid hv Hng.out Hns.out
                    exact ⟨k + 1, _, some (id, [v]), ao5, cap5, g5, _, by go_num, by simp [flushP], hst⟩
                  case measure => simp [intOf]; omega
                · have t4 : decide ((id : Int) ≤ p.1) = true := by simp; omega
                  have t5 : decide (id ≤ p.1) = true := by simp; omega
                  have hns : startsNew (some p) id step = false := by simp [startsNew, hlt2]
                  have Hns := Lib.hid hns
                  clear hs0 h1 hlt2 hns
                  go_wp2_with (go_at_call 46; refine HO.out.mono ?_; rintro e W2 ⟨rfl, hB2⟩; have hs2 := hB2.size; have HB2 := Lib.hid hB2; clear hB2)
                  obtain ⟨W3, hW3⟩ : ∃ W3, W2.alloc (Obj.cells #[Value.int IntKind.u32 (id : Nat), Value.int IntKind.u32 (step : Nat), Value.int IntKind.u32 (v : Nat)] 86) = W3 := ⟨_, rfl⟩
                  have hB23 : Below W2.heap.size W2 W3 := by rw [← hW3]; exact ext_alloc _ _
                  have x0 : W3.cell? ⟨W2.heap.size, 0, none⟩ = some (.int .u32 (id : Nat)) := by rw [← hW3]; simp [go_sem, ↓IntWalk.iteOmega]
                  have x1 : W3.cell? ⟨W2.heap.size, 1, none⟩ = some (.int .u32 (step : Nat)) := by rw [← hW3]; simp [go_sem, ↓IntWalk.iteOmega]
                  have x2 : W3.cell? ⟨W2.heap.size, 2, none⟩ = some (.int .u32 (v : Nat)) := by rw [← hW3]; simp [go_sem, ↓IntWalk.iteOmega]
                  have hs3 : W2.heap.size + 1 ≤ W3.heap.size := by rw [← hW3]; simp
                  rw [hW3]
                  have hBr3 : Below wr.heap.size wr W3 := HB2.out.trans (hB23.mono HB2.out.size)
                  have HB3 := Lib.hid hBr3
                  clear hW3 hB23 hBr3
                  clear hce
                  have g0 := ((bcell HB3.out).1 _ _ hbo).trans hp0
                  have g1 := ((bcell HB3.out).1 _ _ hbo).trans hp1
                  clear hp0 hp1 hpf0 hpf1
                  go_quiet (fail)
                  obtain ⟨WA, hWA⟩ : ∃ WA, W3.drewN nq = WA := ⟨_, rfl⟩
                  have hBA : Below wr.heap.size wr WA := by rw [← hWA]; exact HB3.out.trans ((ext_drewN W3 nq).mono HB3.out.size)
                  have x0' : WA.cell? ⟨W2.heap.size, 0, none⟩ = some (.int .u32 (id : Nat)) := by rw [← hWA]; simpa [go_sem] using x0
                  have x1' : WA.cell? ⟨W2.heap.size, 1, none⟩ = some (.int .u32 (step : Nat)) := by rw [← hWA]; simpa [go_sem] using x1
                  have x2' : WA.cell? ⟨W2.heap.size, 2, none⟩ = some (.int .u32 (v : Nat)) := by rw [← hWA]; simpa [go_sem] using x2
                  have g0' : WA.cell? ⟨bo, done.length * 2, none⟩ = some (.int .u32 (p.1 : Nat)) := (by rw [← hWA]; simpa [go_sem] using g0); have g1' : WA.cell? ⟨bo, done.length * 2 + 1, none⟩ = some (.slice ap p.2.length cp) := (by rw [← hWA]; simpa [go_sem] using g1); clear g0 g1
                  rw [hWA]
                  have HBA := Lib.hid hBA
                  clear hWA hBA x0 x1 x2
                  go_wp2_with fail
                  go_quiet (fail)
                  obtain ⟨WQ, hWQ⟩ : ∃ WQ, WA.drewN nq = WQ := ⟨_, rfl⟩
                  have hBQ : Below wr.heap.size wr WQ := by rw [← hWQ]; exact HBA.out.trans ((ext_drewN WA nq).mono HBA.out.size)
                  have x0 : WQ.cell? ⟨W2.heap.size, 0, none⟩ = some (.int .u32 (id : Nat)) := by rw [← hWQ]; simpa [go_sem] using x0'
                  have x2 : WQ.cell? ⟨W2.heap.size, 2, none⟩ = some (.int .u32 (v : Nat)) := by rw [← hWQ]; simpa [go_sem] using x2'
                  have hsq : W2.heap.size + 1 ≤ WQ.heap.size := by rw [← hWQ]; show _ ≤ WA.heap.size; have := World.block_lt_of_cell? WA _ x0'; simp at this; omega
                  rw [hWQ]
                  have HBQ := Lib.hid hBQ
                  clear hWQ hBQ x0' x1' x2'
                  go_wp2_with fail
                  go_ret2
                  exact PathsRet.none (paths_state Hgo.out H12.out Hk3.out Hng.out Hns.out) ((HS.out.below.trans (HBQ.out.mono HS.out.below.size)).alloc (by have := HBQ.out.size; have := HS.out.below.size; omega) _) (by simp [maxLen])
              · have u1 : ((step : Int) != 0) = true := by simp; omega
                have hns : startsNew (some p) id step = false := by simp [startsNew, hs0]
                have Hns := Lib.hid hns
                clear hs0 h1 hns
                go_wp2_with (go_at_call 46; refine HO.out.mono ?_; rintro e W2 ⟨rfl, hB2⟩; have hs2 := hB2.size; have HB2 := Lib.hid hB2; clear hB2)
                obtain ⟨W3, hW3⟩ : ∃ W3, W2.alloc (Obj.cells #[Value.int IntKind.u32 (id : Nat), Value.int IntKind.u32 (step : Nat), Value.int IntKind.u32 (v : Nat)] 86) = W3 := ⟨_, rfl⟩
                have hB23 : Below W2.heap.size W2 W3 := by rw [← hW3]; exact ext_alloc _ _
                have x0 : W3.cell? ⟨W2.heap.size, 0, none⟩ = some (.int .u32 (id : Nat)) := by rw [← hW3]; simp [go_sem, ↓IntWalk.iteOmega]
                have x1 : W3.cell? ⟨W2.heap.size, 1, none⟩ = some (.int .u32 (step : Nat)) := by rw [← hW3]; simp [go_sem, ↓IntWalk.iteOmega]
                have x2 : W3.cell? ⟨W2.heap.size, 2, none⟩ = some (.int .u32 (v : Nat)) := by rw [← hW3]; simp [go_sem, ↓IntWalk.iteOmega]
                have hs3 : W2.heap.size + 1 ≤ W3.heap.size := by rw [← hW3]; simp
                rw [hW3]
                have hBr3 : Below wr.heap.size wr W3 := HB2.out.trans (hB23.mono HB2.out.size)
                have HB3 := Lib.hid hBr3
                clear hW3 hB23 hBr3
                clear hce
                have g0 := ((bcell HB3.out).1 _ _ hbo).trans hp0
                have g1 := ((bcell HB3.out).1 _ _ hbo).trans hp1
                clear hp0 hp1 hpf0 hpf1
                go_quiet (fail)
                obtain ⟨WA, hWA⟩ : ∃ WA, W3.drewN nq = WA := ⟨_, rfl⟩
                have hBA : Below wr.heap.size wr WA := by rw [← hWA]; exact HB3.out.trans ((ext_drewN W3 nq).mono HB3.out.size)
                have x0' : WA.cell? ⟨W2.heap.size, 0, none⟩ = some (.int .u32 (id : Nat)) := by rw [← hWA]; simpa [go_sem] using x0
                have x1' : WA.cell? ⟨W2.heap.size, 1, none⟩ = some (.int .u32 (step : Nat)) := by rw [← hWA]; simpa [go_sem] using x1
                have x2' : WA.cell? ⟨W2.heap.size, 2, none⟩ = some (.int .u32 (v : Nat)) := by rw [← hWA]; simpa [go_sem] using x2
                have g0' : WA.cell? ⟨bo, done.length * 2, none⟩ = some (.int .u32 (p.1 : Nat)) := (by rw [← hWA]; simpa [go_sem] using g0); have g1' : WA.cell? ⟨bo, done.length * 2 + 1, none⟩ = some (.slice ap p.2.length cp) := (by rw [← hWA]; simpa [go_sem] using g1); clear g0 g1
                rw [hWA]
                have HBA := Lib.hid hBA
                clear hWA hBA x0 x1 x2
                go_wp2_with fail
                go_quiet (fail)
                obtain ⟨WQ, hWQ⟩ : ∃ WQ, WA.drewN nq = WQ := ⟨_, rfl⟩
                have hBQ : Below wr.heap.size wr WQ := by rw [← hWQ]; exact HBA.out.trans ((ext_drewN WA nq).mono HBA.out.size)
                have x0 : WQ.cell? ⟨W2.heap.size, 0, none⟩ = some (.int .u32 (id : Nat)) := by rw [← hWQ]; simpa [go_sem] using x0'
                have x2 : WQ.cell? ⟨W2.heap.size, 2, none⟩ = some (.int .u32 (v : Nat)) := by rw [← hWQ]; simpa [go_sem] using x2'
                have hsq : W2.heap.size + 1 ≤ WQ.heap.size := by rw [← hWQ]; show _ ≤ WA.heap.size; have := World.block_lt_of_cell? WA _ x0'; simp at this; omega
                rw [hWQ]
                have HBQ := Lib.hid hBQ
                clear hWQ hBQ x0' x1' x2'
                go_wp2_with fail
                go_ret2
                exact PathsRet.none (paths_state Hgo.out H12.out Hk3.out Hng.out Hns.out) ((HS.out.below.trans (HBQ.out.mono HS.out.below.size)).alloc (by have := HBQ.out.size; have := HS.out.below.size; omega) _) (by simp [maxLen])
      · have hO := rof_no r.length rc ra wr h12
        simp only [edgeV] at hO
        have HO := Lib.hid hO
        have Hbad := Lib.hid (paths_bad Hgo.out h12)
        clear hO h12 hrd hrc1
        go_wp2_with (go_at_call 46; refine HO.out.mono ?_; rintro e W2 ⟨rfl, hB2⟩; have hs2 := hB2.size; have HB2 := Lib.hid hB2; clear hB2)
        go_ret2
        have hs := HS.out.below.size
        exact PathsRet.none Hbad.out (((HS.out.below.trans (HB2.out.mono hs)).alloc (by omega) _).alloc (by simp; omega) _) (by simp [maxLen])
    · obtain rfl : k = recs.length := by omega
      have hp := HS.out.go
      rw [List.drop_length] at hp
      have hp2 : paths recs = (done ++ flushP st, 0) := by rw [hp]; rfl
      have Hp := Lib.hid hp2
      obtain ⟨css, hown, hall⟩ := HS.out.own
      have hl2 : (done ++ flushP st).length ≤ cap' ∧ cap' ≤ maxLen := hown.capLe
      have Hl2 := Lib.hid hl2
      clear hp hp2 hown hall hl2
      go_wp2_with fail
      go_ret2
      show PathsRet (paths recs) w (.returned (.tuple #[.slice ao' (done ++ flushP st).length cap', .int .i64 0])) wr
      rw [Hp.out]
      exact ⟨ao', cap', rfl, Hl2.out.1, Hl2.out.2, HS.out.own.rd.mono (fun b hb _ => hb.elim (fun h => (HS.out.fe1 b h).1) (fun h => HS.out.g1 b h)), HS.out.below⟩
end Go.Proofs.Ytbleacpdobjdaaa
