/- edge.numbers, edge.One. -/
import Derived.Test.YtafbjkbdfdeacaaEdgeOne0
namespace Go.Proofs.Ytafbjkbdfdeacaa
set_option linter.unusedSimpArgs false
set_option linter.unusedVariables false
open Go.RowKit

def errAt (k : Nat) (w : List UInt8) : Nat := if (num w (limE k)).2 ≠ 0 then (num w (limE k)).2 else if k = 2 ∧ (num w (limE k)).1 = 0 then 9 else 0
def errGo : Nat → List (List UInt8) → Nat
  | _, [] => 0
  | k, w :: ws => if errAt k w ≠ 0 then errAt k w else errGo (k + 1) ws
def valAt (ws : List (List UInt8)) (k j : Nat) : Nat := if j < k then (num (ws.getD j []) (limE j)).1 else if j = 2 then 1 else 0
theorem oneW_two (a b : List UInt8) (h : a.head? ≠ some 35) : oneW [a, b] = if errGo 0 [a, b] ≠ 0 then ((0, 0, 0), false, errGo 0 [a, b]) else ((valAt [a, b] 2 0, valAt [a, b] 2 1, valAt [a, b] 2 2), true, 0) := by
  rw [show oneW [a, b] = twoE a b (1, 0) from if_neg h]
  unfold twoE
  simp only [errGo, errAt, limE, valAt]
  by_cases h1 : (num a 4294967295).2 = 0 <;> by_cases h2 : (num b 4294967295).2 = 0 <;> simp [h1, h2]
theorem oneW_three (a b c : List UInt8) (h : a.head? ≠ some 35) : oneW [a, b, c] = if errGo 0 [a, b, c] ≠ 0 then ((0, 0, 0), false, errGo 0 [a, b, c]) else ((valAt [a, b, c] 3 0, valAt [a, b, c] 3 1, valAt [a, b, c] 3 2), true, 0) := by
  rw [show oneW [a, b, c] = twoE a b (weightOf c) from if_neg h]
  unfold twoE weightOf
  simp only [errGo, errAt, limE, valAt]
  by_cases h1 : (num a 4294967295).2 = 0 <;> by_cases h2 : (num b 4294967295).2 = 0 <;> by_cases h3 : (num c 2147483647).2 = 0 <;> by_cases h4 : (num c 2147483647).1 = 0 <;> simp [h1, h2, h3, h4]

def ENumRet (ws : List (List UInt8)) (w : World) (e : Ending) (w' : World) : Prop :=
  ∃ x y z : Nat, e = .returned (.tuple #[.agg #[.int .u64 x, .int .u64 y, .int .u64 z], .int .i64 (errGo 0 ws : Nat)]) ∧ (errGo 0 ws = 0 → x = valAt ws ws.length 0 ∧ y = valAt ws ws.length 1 ∧ z = valAt ws ws.length 2) ∧ Below w.heap.size w w'
structure EN (s : Nat) (w W : World) (f : Nat → Nat) : Prop where
  below : Below s w W
  size : s + 2 ≤ W.heap.size
  c0 : W.cell? ⟨s + 1, 0, none⟩ = some (.int .u64 (f 0 : Nat))
  c1 : W.cell? ⟨s + 1, 1, none⟩ = some (.int .u64 (f 1 : Nat))
  c2 : W.cell? ⟨s + 1, 2, none⟩ = some (.int .u64 (f 2 : Nat))
  f0 : W.frozen? ⟨s + 1, 0, none⟩ = false
  f1 : W.frozen? ⟨s + 1, 1, none⟩ = false
  f2 : W.frozen? ⟨s + 1, 2, none⟩ = false
  r0 : W.cell? ⟨s, 0, none⟩ = some (.int .u64 0)
  r1 : W.cell? ⟨s, 1, none⟩ = some (.int .u64 0)
  r2 : W.cell? ⟨s, 2, none⟩ = some (.int .u64 0)
  g0 : W.frozen? ⟨s, 0, none⟩ = false
  g1 : W.frozen? ⟨s, 1, none⟩ = false
  g2 : W.frozen? ⟨s, 2, none⟩ = false
theorem EN.ext {s : Nat} {w W W' : World} {f : Nat → Nat} (h : EN s w W f) (hB : Below W.heap.size W W') : EN s w W' f := by
  obtain ⟨a, b, c0, c1, c2, f0, f1, f2, r0, r1, r2, g0, g1, g2⟩ := h
  have hc := (bcell hB).1
  have hf := (bcell hB).2
  have hs := hB.size
  exact ⟨a.trans (hB.mono (by omega)), by omega, (hc _ _ (by omega)).trans c0, (hc _ _ (by omega)).trans c1, (hc _ _ (by omega)).trans c2, (hf _ _ (by omega)).trans f0, (hf _ _ (by omega)).trans f1, (hf _ _ (by omega)).trans f2,
    (hc _ _ (by omega)).trans r0, (hc _ _ (by omega)).trans r1, (hc _ _ (by omega)).trans r2, (hf _ _ (by omega)).trans g0, (hf _ _ (by omega)).trans g1, (hf _ _ (by omega)).trans g2⟩
theorem en_set {s : Nat} {w W : World} {f f' : Nat → Nat} (k : Nat) (hk : k < 3) (v : Nat) (h : EN s w W f) (hf : ∀ j, f' j = if j = k then v else f j) : EN s w (W.setCell ⟨s + 1, k, none⟩ (.int .u64 (v : Nat))) f' := by
  obtain ⟨a, b, c0, c1, c2, f0, f1, f2, r0, r1, r2, g0, g1, g2⟩ := h
  have e0 := hf 0
  have e1 := hf 1
  have e2 := hf 2
  refine ⟨a.setCell (by simp) _, by rw [World.size_setCell]; omega, ?_, ?_, ?_, ?_, ?_, ?_, ?_, ?_, ?_, ?_, ?_, ?_⟩
  all_goals first
    | (rw [World.frozen?_setCell]; assumption)
    | (match k, hk with
       | 0, _ => simp_all [cell_set_ite]
       | 1, _ => simp_all [cell_set_ite]
       | 2, _ => simp_all [cell_set_ite])
theorem en_at {s : Nat} {w W : World} {f : Nat → Nat} {k : Nat} (h : EN s w W f) (hk : k < 3) : W.cell? ⟨s + 1, k, none⟩ = some (.int .u64 (f k : Nat)) ∧ W.frozen? ⟨s + 1, k, none⟩ = false := by
  match k, hk with
  | 0, _ => exact ⟨h.c0, h.f0⟩
  | 1, _ => exact ⟨h.c1, h.f1⟩
  | 2, _ => exact ⟨h.c2, h.f2⟩
def enI (ws : List (List UInt8)) (w : World) (i : Value) (wr : World) : Prop := ∃ k : Nat, k ≤ ws.length ∧ i = .int .i64 (k : Nat) ∧ errGo k (ws.drop k) = errGo 0 ws ∧ EN w.heap.size w wr (valAt ws k)

set_option maxRecDepth 100000 in
set_option maxHeartbeats 1600000 in
theorem enum_any (ws : List (List UInt8)) (ao : Option Addr) (cap : Nat) (w : World) (hl : 1 ≤ ws.length ∧ ws.length ≤ 3) (hall : ∀ x ∈ ws, x.length ≤ 1073741824) (hrd : Rd w ao ws.length (strCells ws)) :
    Calls Try.prog 52 #[.slice ao ws.length cap] w (ENumRet ws w) := by
  obtain ⟨bb, off, rfl, hbb, hc⟩ := hrd.pos (by omega)
  have Hc := Lib.hid hc
  have Hall := Lib.hid hall
  clear hc hall hrd
  go_enter Try.func52, Try.ntmps52
  go_wp2_with fail
  go_loopw [12] (fun i wr => enI ws w i wr) (fun i _ => ws.length - (intOf i).toNat)
  case atStart =>
    refine ⟨0, by omega, rfl, rfl, ?_⟩
    constructor <;> first | exact (ext_alloc w _).alloc (by simp) _ | (simp [go_sem, ↓IntWalk.iteOmega, valAt])
  case round =>
    obtain ⟨k, hk, rfl, hgo, hEN⟩ := hrel
    by_cases hlt : k < ws.length
    · have hck := Hc.out k hlt
      simp only [strCells, List.getElem?_map, List.getElem?_eq_getElem hlt, Option.map_some] at hck
      rw [List.drop_eq_getElem_cons hlt] at hgo
      have hxl := Hall.out ws[k] (List.getElem_mem hlt)
      have hgd : ws.getD k [] = ws[k] := by simp [hlt]
      have hk3 : k < 3 := by omega
      have hir : (k : Int) < (ws.length : Int) := by omega
      have hk3' : (k : Int) < 3 := by omega
      have hN := fun (W : World) => num_any ws[k] (limE k) hxl (by unfold limE; split <;> decide) W
      have hidx : ∀ u : World, (Instr.index 94 limV (.int .i64 k)).run Try.prog u = .ok (.int .u64 (limE k)) u := by
        match k, hk3 with
        | 0, _ => exact fun u => by kernel_rfl
        | 1, _ => exact fun u => by kernel_rfl
        | 2, _ => exact fun u => by kernel_rfl
      have hea : errAt k ws[k] = if (num ws[k] (limE k)).2 ≠ 0 then (num ws[k] (limE k)).2 else if k = 2 ∧ (num ws[k] (limE k)).1 = 0 then 9 else 0 := rfl
      have hva : ∀ j, valAt ws (k + 1) j = if j = k then (num ws[k] (limE k)).1 else valAt ws k j := fun j => by
        unfold valAt
        by_cases hj : j = k
        · subst hj; rw [if_pos (by omega), if_pos rfl, hgd]
        · rw [if_neg hj]
          by_cases hj2 : j < k
          · rw [if_pos (by omega), if_pos hj2]
          · rw [if_neg (by omega), if_neg hj2]
      have hbw := hEN.below
      have hck' := ((bcell hbw).1 bb (off + k) hbb).trans hck
      generalize num ws[k] (limE k) = r at hN hea hva
      generalize ws[k] = x at hck' hN hgo hea
      obtain ⟨v, er⟩ := r
      simp only at hea hva
      have HN := Lib.hid hN
      have HEN := Lib.hid hEN
      have Hgo := Lib.hid hgo
      have Hva := Lib.hid hva
      have hs := hEN.size
      clear hN hEN hgo hva hck hgd hbw
      by_cases he : er = 0
      · have hd1 : ((er : Int) == 0) = true := by simp [he]
        have hd2 : ((er : Int) != 0) = false := by simp [he]
        rw [if_neg (by omega)] at hea
        by_cases h9 : k = 2 ∧ v = 0
        · rw [if_pos h9] at hea
          have hgo := Hgo.out
          simp only [errGo] at hgo
          rw [if_pos (by omega), hea] at hgo
          have Hg := Lib.hid hgo
          have hd3 : ((k : Int) == 2) = true := by simp [h9.1]
          have hd4 : ((v : Int) == 0) = true := by simp [h9.2]
          clear hgo hea h9 he
          go_wp2_with (first
            | (go_at_call 64; refine (limits_any _).mono ?_; rintro e w1 ⟨rfl, hB1⟩; have HE1 := Lib.hid (HEN.out.ext hB1); clear hB1)
            | (go_at_call 63; refine (HN.out _).mono ?_; unfold numOut; rintro e w2 ⟨rfl, hB2⟩; have HE2 := Lib.hid (HE1.out.ext hB2); obtain ⟨_, hs2, y0, y1, y2, u0, u1, u2, z0, z1, z2, v0, v1, v2⟩ := HE2.out; obtain ⟨yk, uk⟩ := en_at HE2.out hk3; clear hB2))
          refine bodyPost_ret (v := .tuple #[.agg #[.int .u64 (valAt ws k 0 : Nat), .int .u64 (valAt ws k 1 : Nat), .int .u64 (valAt ws k 2 : Nat)], .int .i64 9]) (by simp [results, Try.results52, go_sem, cell_set_ite, z0, z1, z2]) rfl ?_
          exact ⟨_, _, _, by rw [← Hg.out]; rfl, fun h => absurd (Hg.out.trans h) (by decide), ((HE2.out.below.setCell (by simp) _).setCell (by simp) _).setCell (by simp) _⟩
        · rw [if_neg h9] at hea
          have hgo := Hgo.out
          simp only [errGo] at hgo
          rw [if_neg (by omega)] at hgo
          have Hg := Lib.hid hgo
          have hd3 : ((k : Int) == 2) = false ∨ ((k : Int) == 2) = true ∧ ((v : Int) == 0) = false := by
            by_cases hk2 : k = 2
            · exact .inr ⟨by simp [hk2], by simp; omega⟩
            · exact .inl (by simp; omega)
          clear hgo hea h9 he
          have hbl := fun (W : World) (h : EN w.heap.size w W (valAt ws k)) => en_set k hk3 v h (Hva.out)
          have Hbl := Lib.hid hbl
          clear hbl
          rcases hd3 with hd3 | ⟨hd3, hd4⟩
          all_goals
            go_wp2_with (first
              | (go_at_call 64; refine (limits_any _).mono ?_; rintro e w1 ⟨rfl, hB1⟩; have HE1 := Lib.hid (HEN.out.ext hB1); clear hB1)
              | (go_at_call 63; refine (HN.out _).mono ?_; unfold numOut; rintro e w2 ⟨rfl, hB2⟩; have HE2 := Lib.hid (HE1.out.ext hB2); obtain ⟨_, hs2, y0, y1, y2, u0, u1, u2, z0, z1, z2, v0, v1, v2⟩ := HE2.out; obtain ⟨yk, uk⟩ := en_at HE2.out hk3; clear hB2))
            exact ⟨⟨k + 1, by omega, by go_num, Hg.out, Hbl.out _ HE2.out⟩, by simp [intOf]; omega⟩
      · rw [if_pos he] at hea
        have hgo := Hgo.out
        simp only [errGo] at hgo
        rw [if_pos (by omega), hea] at hgo
        have Hg := Lib.hid hgo
        have hd1 : ((er : Int) == 0) = false := beq_eq_false_iff_ne.2 (by omega)
        have hd2 : ((er : Int) != 0) = true := by simp; omega
        clear hgo hea
        go_wp2_with (first
          | (go_at_call 64; refine (limits_any _).mono ?_; rintro e w1 ⟨rfl, hB1⟩; have HE1 := Lib.hid (HEN.out.ext hB1); clear hB1)
          | (go_at_call 63; refine (HN.out _).mono ?_; unfold numOut; rintro e w2 ⟨rfl, hB2⟩; have HE2 := Lib.hid (HE1.out.ext hB2); obtain ⟨_, hs2, y0, y1, y2, u0, u1, u2, z0, z1, z2, v0, v1, v2⟩ := HE2.out; obtain ⟨yk, uk⟩ := en_at HE2.out hk3; clear hB2))
        refine bodyPost_ret (v := .tuple #[.agg #[.int .u64 (valAt ws k 0 : Nat), .int .u64 (valAt ws k 1 : Nat), .int .u64 (valAt ws k 2 : Nat)], .int .i64 (er : Nat)]) (by simp [results, Try.results52, go_sem, cell_set_ite, z0, z1, z2]) rfl ?_
        exact ⟨_, _, _, by rw [← Hg.out], fun h => by rw [← Hg.out] at h; exact absurd h he, ((HE2.out.below.setCell (by simp) _).setCell (by simp) _).setCell (by simp) _⟩
    · obtain rfl : k = ws.length := by omega
      rw [List.drop_length] at hgo
      have Hg := Lib.hid (show 0 = errGo 0 ws from hgo)
      obtain ⟨hb, hs, y0, y1, y2, u0, u1, u2, z0, z1, z2, v0, v1, v2⟩ := hEN
      have HB := Lib.hid hb
      clear hgo hb
      go_wp2_with fail
      refine bodyPost_ret (v := .tuple #[.agg #[.int .u64 (valAt ws ws.length 0 : Nat), .int .u64 (valAt ws ws.length 1 : Nat), .int .u64 (valAt ws ws.length 2 : Nat)], .int .i64 0]) (by simp [results, Try.results52, go_sem, cell_set_ite, z0, z1, z2]) rfl ?_
      exact ⟨_, _, _, by rw [← Hg.out]; rfl, fun h => ⟨rfl, rfl, rfl⟩, ((HB.out.setCell (by simp) _).setCell (by simp) _).setCell (by simp) _⟩

def OneRet (r : EdgeD × Bool × Nat) (w : World) (e : Ending) (w' : World) : Prop := e = .returned (.tuple #[edgeV r.1, .bool r.2.1, .int .i64 (r.2.2 : Nat)]) ∧ Below w.heap.size w w'
structure EB (s : Nat) (w W : World) : Prop where
  below : Below s w W
  size : s < W.heap.size
  r0 : W.cell? ⟨s, 0, none⟩ = some (.int .u32 0)
  r1 : W.cell? ⟨s, 1, none⟩ = some (.int .u32 0)
  r2 : W.cell? ⟨s, 2, none⟩ = some (.int .u32 0)
  g0 : W.frozen? ⟨s, 0, none⟩ = false
  g1 : W.frozen? ⟨s, 1, none⟩ = false
  g2 : W.frozen? ⟨s, 2, none⟩ = false
theorem EB.ext {s : Nat} {w W W' : World} (h : EB s w W) (hB : Below W.heap.size W W') : EB s w W' := by
  obtain ⟨a, b, r0, r1, r2, g0, g1, g2⟩ := h
  have hc := (bcell hB).1
  have hf := (bcell hB).2
  have hs := hB.size
  exact ⟨a.trans (hB.mono (by omega)), by omega, (hc _ _ (by omega)).trans r0, (hc _ _ (by omega)).trans r1, (hc _ _ (by omega)).trans r2, (hf _ _ (by omega)).trans g0, (hf _ _ (by omega)).trans g1, (hf _ _ (by omega)).trans g2⟩
theorem oneW_many (a : List UInt8) (r : List (List UInt8)) (h : a.head? ≠ some 35) (hl : r.length = 0 ∨ 2 < r.length) : oneW (a :: r) = ((0, 0, 0), false, 12) := by
  match r, hl with
  | [], _ => exact if_neg h
  | [_], hl => simp at hl
  | [_, _], hl => simp at hl
  | _ :: _ :: _ :: _, _ => exact if_neg h
theorem oneW_some (a : List UInt8) (r : List (List UInt8)) (h : a.head? ≠ some 35) (hl : r.length = 1 ∨ r.length = 2) :
    oneW (a :: r) = if errGo 0 (a :: r) ≠ 0 then ((0, 0, 0), false, errGo 0 (a :: r)) else ((valAt (a :: r) (a :: r).length 0, valAt (a :: r) (a :: r).length 1, valAt (a :: r) (a :: r).length 2), true, 0) := by
  match r, hl with
  | [b], _ => exact oneW_two a b h
  | [b, c], _ => exact oneW_three a b c h
  | [], hl => simp at hl
  | _ :: _ :: _ :: _, hl => simp at hl
theorem valAt_lt (ws : List (List UInt8)) (k j : Nat) : valAt ws k j < 4294967296 := by
  unfold valAt
  split
  · have := (num_bound (ws.getD j []) (limE j)).1
    have : limE j ≤ 4294967295 := by unfold limE; split <;> omega
    omega
  · split <;> omega

set_option maxRecDepth 100000 in
set_option maxHeartbeats 1600000 in
theorem one_any (l : List UInt8) (hl : l.length ≤ 1073741824) (w : World) : Calls Try.prog 30 #[.string (bs l)] w (OneRet (oneE l) w) := by
  have hW := fun (W : World) => words_any l hl W
  have hwm := words_mem2 l
  have hwl := words_len l
  unfold oneE
  generalize words l = ws at hW hwm hwl
  have HW := Lib.hid hW
  have Hwm := Lib.hid hwm
  clear hW hwm
  match ws, HW, Hwm, hwl with
  | [], HW, Hwm, hwl =>
    simp only [List.length_nil] at HW
    go_enter Try.func30, Try.ntmps30
    go_wp2_with fail
    have hEB : EB w.heap.size w (w.alloc (Obj.cells #[Value.int IntKind.u32 0, Value.int IntKind.u32 0, Value.int IntKind.u32 0] 24)) := by
      constructor <;> first | exact ext_alloc w _ | (simp [go_sem, ↓IntWalk.iteOmega])
    generalize w.alloc (Obj.cells #[Value.int IntKind.u32 0, Value.int IntKind.u32 0, Value.int IntKind.u32 0] 24) = wA at hEB ⊢
    have HEB := Lib.hid hEB
    clear hEB
    go_wp2_with (first
      | (go_at_call 50; refine (HW.out _).mono ?_; rintro e w1 ⟨a1, c1, g1, rfl, ho1, hg1, hB1⟩; have HE1 := Lib.hid (HEB.out.ext hB1); obtain ⟨_, hs2, z0, z1, z2, v0, v1, v2⟩ := HE1.out; clear hB1 ho1 hg1))
    refine bodyPost_ret (v := .tuple #[edgeV (0, 0, 0), .bool false, .int .i64 0]) (by simp [results, Try.results30, go_sem, cell_set_ite, ↓IntWalk.iteOmega, edgeV, z0, z1, z2]) rfl ?_
    exact ⟨rfl, ((HE1.out.below.setCell (by simp) _).setCell (by simp) _).setCell (by simp) _⟩
  | a :: r, HW, Hwm, hwl =>
    have hen := fun (W : World) (ao : Option Addr) (cap : Nat) (h : (a :: r).length ≤ 3) => enum_any (a :: r) ao cap W ⟨by simp, h⟩ (fun x hx => by have := Hwm.out x hx; omega)
    have hmany := oneW_many a r
    have hsome := oneW_some a r
    have hv := fun k j => valAt_lt (a :: r) k j
    have hn1 : (a :: r).length = r.length + 1 := rfl
    have hsc : (strCells (a :: r))[0]? = some (.string (bs a)) := rfl
    have hmark : a.head? = some 35 → oneW (a :: r) = ((0, 0, 0), false, 0) := fun h => if_pos h
    obtain ⟨n, hn⟩ : ∃ n, (a :: r).length = n := ⟨_, rfl⟩
    rw [hn] at HW hwl hen hsome hn1
    generalize strCells (a :: r) = sc at HW hen hsc
    have h0 : ((n : Int) == 0) = false := by simp; omega
    have h1 : (0 : Int) < n := by omega
    have h1' : 0 < n := by omega
    have Hen := Lib.hid hen
    clear hen
    by_cases hm : a.head? = some 35
    · have hmk := hmark hm
      have hpb : (a.head? == some 35) = true := by simp [hm]
      rw [hmk]
      clear hmark hmany hsome hmk
      go_enter Try.func30, Try.ntmps30
      go_wp2_with fail
      have hEB : EB w.heap.size w (w.alloc (Obj.cells #[Value.int IntKind.u32 0, Value.int IntKind.u32 0, Value.int IntKind.u32 0] 24)) := by
        constructor <;> first | exact ext_alloc w _ | (simp [go_sem, ↓IntWalk.iteOmega])
      generalize w.alloc (Obj.cells #[Value.int IntKind.u32 0, Value.int IntKind.u32 0, Value.int IntKind.u32 0] 24) = wA at hEB ⊢
      have HEB := Lib.hid hEB
      clear hEB
      go_wp2_with (first
        | (go_at_call 50; refine (HW.out _).mono ?_; rintro e w1 ⟨a1, c1, g1, rfl, ho1, hg1, hB1⟩; have HE1 := Lib.hid (HEB.out.ext hB1); obtain ⟨_, hs2, z0, z1, z2, v0, v1, v2⟩ := HE1.out; obtain ⟨bw, _, rfl, hbw⟩ := ho1.pos h1'; have hc0 := (ho1.cell 0 (by omega)).trans hsc; have Ho1 := Lib.hid ho1; clear hB1 ho1 hg1)
        | (go_at_call 51; refine (prefix_any a _).mono ?_; rintro e w2 ⟨rfl, rfl⟩))
      refine bodyPost_ret (v := .tuple #[edgeV (0, 0, 0), .bool false, .int .i64 0]) (by simp [results, Try.results30, go_sem, cell_set_ite, ↓IntWalk.iteOmega, edgeV, z0, z1, z2]) rfl ?_
      exact ⟨rfl, ((HE1.out.below.setCell (by simp) _).setCell (by simp) _).setCell (by simp) _⟩
    · have hpb : (a.head? == some 35) = false := by simpa using hm
      by_cases hl3 : r.length = 1 ∨ r.length = 2
      · have hso := hsome hm hl3
        rw [hso]
        have ht1 : decide ((n : Int) < 2) = false := decide_eq_false (by omega)
        have ht2 : decide ((3 : Int) < n) = false := decide_eq_false (by omega)
        have hn3 : n ≤ 3 := by omega
        clear hmark hmany hsome hso hm
        have hx0 := hv n 0
        have hx1 := hv n 1
        have hx2 := hv n 2
        have hen2 : ∀ (W : World) (ao : Option Addr) (cap : Nat), Rd W ao n sc → Calls Try.prog 52 #[.slice ao n cap] W (fun e w' => ∃ x y z : Nat, e = .returned (.tuple #[.agg #[.int .u64 x, .int .u64 y, .int .u64 z], .int .i64 (errGo 0 (a :: r) : Nat)]) ∧ (errGo 0 (a :: r) = 0 → x = valAt (a :: r) n 0 ∧ y = valAt (a :: r) n 1 ∧ z = valAt (a :: r) n 2) ∧ Below W.heap.size W w') := fun W ao cap h => by
          have := Hen.out W ao cap hn3 h
          unfold ENumRet at this
          rw [hn] at this
          exact this
        generalize errGo 0 (a :: r) = E at hen2 ⊢
        generalize valAt (a :: r) n 0 = v0 at hen2 hx0 ⊢
        generalize valAt (a :: r) n 1 = v1 at hen2 hx1 ⊢
        generalize valAt (a :: r) n 2 = v2 at hen2 hx2 ⊢
        have Hen2 := Lib.hid hen2
        clear hen2 Hen hv hn hn1 hl3
        have wx0 : (v0 : Int) % 4294967296 = v0 := by omega
        have wx1 : (v1 : Int) % 4294967296 = v1 := by omega
        have wx2 : (v2 : Int) % 4294967296 = v2 := by omega
        by_cases hE : E = 0
        · have hd1 : ((E : Int) != 0) = false := by simp [hE]
          rw [if_neg (by omega)]
          have HE := Lib.hid hE
          clear hE
          go_enter Try.func30, Try.ntmps30
          go_wp2_with fail
          have hEB : EB w.heap.size w (w.alloc (Obj.cells #[Value.int IntKind.u32 0, Value.int IntKind.u32 0, Value.int IntKind.u32 0] 24)) := by
            constructor <;> first | exact ext_alloc w _ | (simp [go_sem, ↓IntWalk.iteOmega])
          generalize w.alloc (Obj.cells #[Value.int IntKind.u32 0, Value.int IntKind.u32 0, Value.int IntKind.u32 0] 24) = wA at hEB ⊢
          have HEB := Lib.hid hEB
          clear hEB
          go_wp2_with (first
            | (go_at_call 50; refine (HW.out _).mono ?_; rintro e w1 ⟨a1, c1, g1, rfl, ho1, hg1, hB1⟩; have HE1 := Lib.hid (HEB.out.ext hB1); obtain ⟨bw, _, rfl, hbw⟩ := ho1.pos h1'; have hc0 := (ho1.cell 0 (by omega)).trans hsc; have Ho1 := Lib.hid ho1; clear hB1 ho1 hg1)
            | (go_at_call 51; refine (prefix_any a _).mono ?_; rintro e w2 ⟨rfl, rfl⟩)
            | (go_at_call 52; (with_reducible refine (Hen2.out _ _ _ Ho1.out.rd).mono ?_); rintro e w3 ⟨x, y, z, rfl, hxyz, hB3⟩; obtain ⟨rfl, rfl, rfl⟩ := hxyz HE.out; have HE3 := Lib.hid (HE1.out.ext hB3); obtain ⟨_, hs2, z0, z1, z2, q0, q1, q2⟩ := HE3.out; clear hB3 hxyz))
          refine bodyPost_ret (v := .tuple #[edgeV (x, y, z), .bool true, .int .i64 0]) (by simp [results, Try.results30, go_sem, cell_set_ite, ↓IntWalk.iteOmega, edgeV, z0, z1, z2]) rfl ?_
          refine ⟨rfl, (((HE3.out.below.setCell (by simp) _).setCell (by simp) _).setCell (by simp) _).alloc (by simp; omega) _⟩
        · have hd1 : ((E : Int) != 0) = true := by simp; omega
          rw [if_pos hE]
          go_enter Try.func30, Try.ntmps30
          go_wp2_with fail
          have hEB : EB w.heap.size w (w.alloc (Obj.cells #[Value.int IntKind.u32 0, Value.int IntKind.u32 0, Value.int IntKind.u32 0] 24)) := by
            constructor <;> first | exact ext_alloc w _ | (simp [go_sem, ↓IntWalk.iteOmega])
          generalize w.alloc (Obj.cells #[Value.int IntKind.u32 0, Value.int IntKind.u32 0, Value.int IntKind.u32 0] 24) = wA at hEB ⊢
          have HEB := Lib.hid hEB
          clear hEB
          go_wp2_with (first
            | (go_at_call 50; refine (HW.out _).mono ?_; rintro e w1 ⟨a1, c1, g1, rfl, ho1, hg1, hB1⟩; have HE1 := Lib.hid (HEB.out.ext hB1); obtain ⟨bw, _, rfl, hbw⟩ := ho1.pos h1'; have hc0 := (ho1.cell 0 (by omega)).trans hsc; have Ho1 := Lib.hid ho1; clear hB1 ho1 hg1)
            | (go_at_call 51; refine (prefix_any a _).mono ?_; rintro e w2 ⟨rfl, rfl⟩)
            | (go_at_call 52; (with_reducible refine (Hen2.out _ _ _ Ho1.out.rd).mono ?_); rintro e w3 ⟨x, y, z, rfl, hxyz, hB3⟩; have HE3 := Lib.hid (HE1.out.ext hB3); obtain ⟨_, hs2, z0, z1, z2, q0, q1, q2⟩ := HE3.out; clear hB3 hxyz))
          refine bodyPost_ret (v := .tuple #[edgeV (0, 0, 0), .bool false, .int .i64 (E : Nat)]) (by simp [results, Try.results30, go_sem, cell_set_ite, ↓IntWalk.iteOmega, edgeV, z0, z1, z2]) rfl ?_
          refine ⟨rfl, (((HE3.out.below.setCell (by simp) _).setCell (by simp) _).setCell (by simp) _).alloc (by simp; omega) _⟩
      · have hma := hmany hm (by omega)
        rw [hma]
        clear hmark hmany hsome hma hm
        by_cases hl1 : n < 2
        · have ht1 : decide ((n : Int) < 2) = true := decide_eq_true (by omega)
          go_enter Try.func30, Try.ntmps30
          go_wp2_with fail
          have hEB : EB w.heap.size w (w.alloc (Obj.cells #[Value.int IntKind.u32 0, Value.int IntKind.u32 0, Value.int IntKind.u32 0] 24)) := by
            constructor <;> first | exact ext_alloc w _ | (simp [go_sem, ↓IntWalk.iteOmega])
          generalize w.alloc (Obj.cells #[Value.int IntKind.u32 0, Value.int IntKind.u32 0, Value.int IntKind.u32 0] 24) = wA at hEB ⊢
          have HEB := Lib.hid hEB
          clear hEB
          go_wp2_with (first
            | (go_at_call 50; refine (HW.out _).mono ?_; rintro e w1 ⟨a1, c1, g1, rfl, ho1, hg1, hB1⟩; have HE1 := Lib.hid (HEB.out.ext hB1); obtain ⟨_, hs2, z0, z1, z2, v0, v1, v2⟩ := HE1.out; obtain ⟨bw, _, rfl, hbw⟩ := ho1.pos h1'; have hc0 := (ho1.cell 0 (by omega)).trans hsc; have Ho1 := Lib.hid ho1; clear hB1 ho1 hg1)
            | (go_at_call 51; refine (prefix_any a _).mono ?_; rintro e w2 ⟨rfl, rfl⟩))
          refine bodyPost_ret (v := .tuple #[edgeV (0, 0, 0), .bool false, .int .i64 12]) (by simp [results, Try.results30, go_sem, cell_set_ite, ↓IntWalk.iteOmega, edgeV, z0, z1, z2]) rfl ?_
          exact ⟨rfl, ((HE1.out.below.setCell (by simp) _).setCell (by simp) _).setCell (by simp) _⟩
        · have ht1 : decide ((n : Int) < 2) = false := decide_eq_false (by omega)
          have ht2 : decide ((3 : Int) < n) = true := decide_eq_true (by omega)
          go_enter Try.func30, Try.ntmps30
          go_wp2_with fail
          have hEB : EB w.heap.size w (w.alloc (Obj.cells #[Value.int IntKind.u32 0, Value.int IntKind.u32 0, Value.int IntKind.u32 0] 24)) := by
            constructor <;> first | exact ext_alloc w _ | (simp [go_sem, ↓IntWalk.iteOmega])
          generalize w.alloc (Obj.cells #[Value.int IntKind.u32 0, Value.int IntKind.u32 0, Value.int IntKind.u32 0] 24) = wA at hEB ⊢
          have HEB := Lib.hid hEB
          clear hEB
          go_wp2_with (first
            | (go_at_call 50; refine (HW.out _).mono ?_; rintro e w1 ⟨a1, c1, g1, rfl, ho1, hg1, hB1⟩; have HE1 := Lib.hid (HEB.out.ext hB1); obtain ⟨_, hs2, z0, z1, z2, v0, v1, v2⟩ := HE1.out; obtain ⟨bw, _, rfl, hbw⟩ := ho1.pos h1'; have hc0 := (ho1.cell 0 (by omega)).trans hsc; have Ho1 := Lib.hid ho1; clear hB1 ho1 hg1)
            | (go_at_call 51; refine (prefix_any a _).mono ?_; rintro e w2 ⟨rfl, rfl⟩))
          refine bodyPost_ret (v := .tuple #[edgeV (0, 0, 0), .bool false, .int .i64 12]) (by simp [results, Try.results30, go_sem, cell_set_ite, ↓IntWalk.iteOmega, edgeV, z0, z1, z2]) rfl ?_
          exact ⟨rfl, ((HE1.out.below.setCell (by simp) _).setCell (by simp) _).setCell (by simp) _⟩
end Go.Proofs.Ytafbjkbdfdeacaa
