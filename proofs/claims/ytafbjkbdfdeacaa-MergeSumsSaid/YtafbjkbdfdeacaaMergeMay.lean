/- The merger: full, may. -/
import Derived.Test.YtafbjkbdfdeacaaMergeSum
namespace Go.Proofs.Ytafbjkbdfdeacaa
set_option linter.unusedSimpArgs false
set_option linter.unusedVariables false
open Go.RowKit

abbrev RowD := Nat × List ArcD
/-- the row that isn't told yet, and the key that was taken last, in block m -/
structure MG (m : Nat) (row : RowD) (last : List UInt8) (ao : Option Addr) (cap : Nat) (g : Option Nat) (lo : Option Addr) (lc : Nat) (W : World) : Prop where
  c0 : W.cell? ⟨m, 0, none⟩ = some (.int .u32 (row.1 : Nat))
  c1 : W.cell? ⟨m, 1, none⟩ = some (.slice ao row.2.length cap)
  c2 : W.cell? ⟨m, 2, none⟩ = some (.slice lo last.length lc)
  f0 : W.frozen? ⟨m, 0, none⟩ = false
  f1 : W.frozen? ⟨m, 1, none⟩ = false
  f2 : W.frozen? ⟨m, 2, none⟩ = false
  own : OwnS arcRep (fun _ => False) W ao cap g 59 row.2
  rd : Rd W lo last.length (byteVals last)
  lt : m < W.heap.size
  ne : g ≠ some m
  lne : ∀ b off, lo = some ⟨b, off, none⟩ → 0 < last.length → b ≠ m ∧ g ≠ some b
theorem MG.ext {m : Nat} {row : RowD} {last : List UInt8} {ao : Option Addr} {cap : Nat} {g : Option Nat} {lo : Option Addr} {lc : Nat} {W W' : World} (h : MG m row last ao cap g lo lc W) (hB : Below W.heap.size W W') : MG m row last ao cap g lo lc W' := by
  obtain ⟨c0, c1, c2, f0, f1, f2, o, r, l, n, ln⟩ := h
  have hs := hB.size
  exact ⟨((bcell hB).1 _ _ l).trans c0, ((bcell hB).1 _ _ l).trans c1, ((bcell hB).1 _ _ l).trans c2, ((bcell hB).2 _ _ l).trans f0, ((bcell hB).2 _ _ l).trans f1, ((bcell hB).2 _ _ l).trans f2, o.ext hB, r.ext hB, by omega, n, ln⟩

/-- .. its arcs may be another's meanwhile -/
structure MH (m : Nat) (row : RowD) (last : List UInt8) (ao : Option Addr) (cap : Nat) (lo : Option Addr) (lc : Nat) (W : World) : Prop where
  c0 : W.cell? ⟨m, 0, none⟩ = some (.int .u32 (row.1 : Nat))
  c1 : W.cell? ⟨m, 1, none⟩ = some (.slice ao row.2.length cap)
  c2 : W.cell? ⟨m, 2, none⟩ = some (.slice lo last.length lc)
  f0 : W.frozen? ⟨m, 0, none⟩ = false
  f1 : W.frozen? ⟨m, 1, none⟩ = false
  f2 : W.frozen? ⟨m, 2, none⟩ = false
  rd : Rd W lo last.length (byteVals last)
  lt : m < W.heap.size
  lne : ∀ b off, lo = some ⟨b, off, none⟩ → 0 < last.length → b ≠ m
theorem MG.toH {m : Nat} {row : RowD} {last : List UInt8} {ao : Option Addr} {cap : Nat} {g : Option Nat} {lo : Option Addr} {lc : Nat} {W : World} (h : MG m row last ao cap g lo lc W) : MH m row last ao cap lo lc W :=
  ⟨h.c0, h.c1, h.c2, h.f0, h.f1, h.f2, h.rd, h.lt, fun b off e h0 => (h.lne b off e h0).1⟩
theorem MH.only {m : Nat} {row : RowD} {last : List UInt8} {ao : Option Addr} {cap : Nat} {lo : Option Addr} {lc : Nat} {W W' : World} {fp : Nat → Prop} (h : MH m row last ao cap lo lc W) (hs : Only fp W W') (hm : ¬ fp m) (hl : 0 < last.length → ∀ b off, lo = some ⟨b, off, none⟩ → ¬ fp b) : MH m row last ao cap lo lc W' :=
  ⟨(hs.cell h.lt hm 0).trans h.c0, (hs.cell h.lt hm 1).trans h.c1, (hs.cell h.lt hm 2).trans h.c2, (hs.frozen h.lt hm 0).trans h.f0, (hs.frozen h.lt hm 1).trans h.f1, (hs.frozen h.lt hm 2).trans h.f2,
    h.rd.only hs (fun h0 k off e => hl h0 k off e), Nat.lt_of_lt_of_le h.lt hs.size, h.lne⟩
theorem MH.ext {m : Nat} {row : RowD} {last : List UInt8} {ao : Option Addr} {cap : Nat} {lo : Option Addr} {lc : Nat} {W W' : World} (h : MH m row last ao cap lo lc W) (hB : Below W.heap.size W W') : MH m row last ao cap lo lc W' :=
  h.only (Only.of_below (fp := fun _ => False) hB) (fun h => h) (fun _ _ _ _ h => h)

def fullB (row : RowD) (x : EdgeD) : Bool := decide (0 < row.2.length) && !(row.1 == x.1)
set_option maxRecDepth 100000 in
set_option maxHeartbeats 1600000 in
theorem full_any (m : Nat) (row : RowD) (last : List UInt8) (ao : Option Addr) (cap : Nat) (lo : Option Addr) (lc : Nat) (x : EdgeD) (w : World) (h : MH m row last ao cap lo lc w) :
    Calls Try.prog 46 #[.pointer (some ⟨m, 0, none⟩), edgeV x] w fun e w' => e = .returned (.bool (fullB row x)) ∧ Below w.heap.size w w' := by
  obtain ⟨fr, arcs⟩ := row
  obtain ⟨x0, x1, x2⟩ := x
  have hc0 := h.c0
  have hc1 := h.c1
  have hlt := h.lt
  clear h
  simp only at hc0 hc1
  unfold edgeV fullB
  simp only
  have hB : Below w.heap.size w (w.alloc (Obj.cells #[Value.int IntKind.u32 x0, Value.int IntKind.u32 x1, Value.int IntKind.u32 x2] 24)) := ext_alloc w _
  have hnm : ¬ m = w.heap.size := by omega
  have hnm2 : ¬ w.heap.size = m := by omega
  generalize arcs.length = n at hc1 ⊢
  by_cases h0 : 0 < n
  · have hd : decide ((0 : Int) < (n : Int)) = true := decide_eq_true (by omega)
    have hd' : decide (0 < n) = true := decide_eq_true h0
    by_cases h1 : fr = x0
    · have he : ((fr : Int) != (x0 : Int)) = false := by simp [h1]
      have Hr := Lib.hid (show (decide (0 < n) && !(fr == x0)) = false by simp [h1])
      clear h0 h1
      go_enter Try.func46, Try.ntmps46
      go_wp2
      go_quiet (fail)
      go_wp2
      go_ret
      exact ⟨by rw [Hr.out]; rfl, below_drewN hB _⟩
    · have he : ((fr : Int) != (x0 : Int)) = true := by simp; omega
      have Hr := Lib.hid (show (decide (0 < n) && !(fr == x0)) = true by simp [h0, h1])
      clear h0 h1
      go_enter Try.func46, Try.ntmps46
      go_wp2
      go_quiet (fail)
      go_wp2
      go_ret
      exact ⟨by rw [Hr.out]; rfl, below_drewN hB _⟩
  · have hd : decide ((0 : Int) < (n : Int)) = false := decide_eq_false (by omega)
    have hd' : decide (0 < n) = false := decide_eq_false h0
    have Hr := Lib.hid (show (decide (0 < n) && !(fr == x0)) = false by simp [h0])
    clear h0
    go_enter Try.func46, Try.ntmps46
    go_wp2
    go_quiet (fail)
    go_wp2
    go_ret
    exact ⟨by rw [Hr.out]; rfl, below_drewN hB _⟩

/-- a key's edge -/
def keyE (k : List UInt8) : EdgeD := if k.length = 12 then keyOf k else (0, 0, 0)
def sameRow (row : RowD) (x : EdgeD) : Prop := 0 < row.2.length ∧ row.1 = x.1
instance (row : RowD) (x : EdgeD) : Decidable (sameRow row x) := inferInstanceAs (Decidable (_ ∧ _))
def leftOf (row : RowD) (x : EdgeD) : Nat := if sameRow row x then 2147483647 - sumA row.2 else 2147483647
/-- why a key can't be taken -/
def mayErr (row : RowD) (last key : List UInt8) : Nat :=
  if key.length ≠ 12 ∨ (keyE key).2.2 = 0 then 3 else if Lib.compareBytes key last < 0 then 13 else if leftOf row (keyE key) < (keyE key).2.2 then 10 else 0
theorem keyE_ok (k : List UInt8) : okE (keyE k) := by
  unfold keyE
  split
  · rename_i h
    obtain ⟨_, h1, h2, h3⟩ := key3_keyOf k h
    exact ⟨h1, h2, h3⟩
  · exact ⟨by simp, by simp, by simp⟩
theorem mof_any (l : List UInt8) (ao : Option Addr) (cap : Nat) (w : World) (hrd : Rd w ao l.length (byteVals l)) :
    Calls Try.prog 16 #[.slice ao l.length cap] w fun e w' => e = .returned (.tuple #[edgeV (keyE l), .int .i64 ((if l.length = 12 then 0 else 3 : Nat) : Nat)]) ∧ Below w.heap.size w w' := by
  by_cases h : l.length = 12
  · have := mof_yes l ao cap w h hrd
    unfold keyE
    rw [if_pos h, if_pos h]
    exact this
  · have := mof_no l.length cap ao w h
    unfold keyE
    rw [if_neg h, if_neg h]
    exact this

set_option maxRecDepth 100000 in
set_option maxHeartbeats 3200000 in
theorem may_any (m : Nat) (row : RowD) (last key : List UInt8) (ao : Option Addr) (cap : Nat) (g : Option Nat) (lo : Option Addr) (lc : Nat) (ko : Option Addr) (kc : Nat) (w : World) (h : MG m row last ao cap g lo lc w) (hk : Rd w ko key.length (byteVals key)) (hlen : row.2.length ≤ 1073741824) (hsum : sumA row.2 ≤ 2147483647) :
    Calls Try.prog 45 #[.pointer (some ⟨m, 0, none⟩), .slice ko key.length kc] w fun e w' => e = .returned (.tuple #[edgeV (keyE key), .int .i64 (mayErr row last key : Nat)]) ∧ Below w.heap.size w w' := by
  have hOf := fun (W : World) (hB : Below w.heap.size w W) => mof_any key ko kc W (hk.ext hB)
  have hCmp := fun (W : World) (hB : Below w.heap.size w W) => bcompare_any key last ko lo kc lc W (hk.ext hB) (h.rd.ext hB)
  have hSum := fun (W : World) (hB : Below w.heap.size w W) => gsum_any row.2 ao cap _ W hlen (h.own.ext hB).rd
  have hm := fun (W : World) (hB : Below w.heap.size w W) => h.ext hB
  have hmlt := h.lt
  have hokx := keyE_ok key
  have herr : mayErr row last key = if (if key.length = 12 then 0 else 3) ≠ 0 ∨ (keyE key).2.2 = 0 then 3 else if Lib.compareBytes key last < 0 then 13 else if leftOf row (keyE key) < (keyE key).2.2 then 10 else 0 := by
    unfold mayErr
    by_cases h12 : key.length = 12 <;> simp [h12]
  have hleft : (row.2.length = 0 ∧ leftOf row (keyE key) = 2147483647) ∨ (0 < row.2.length ∧ row.1 ≠ (keyE key).1 ∧ leftOf row (keyE key) = 2147483647) ∨ (0 < row.2.length ∧ row.1 = (keyE key).1 ∧ leftOf row (keyE key) = 2147483647 - sumA row.2) := by
    unfold leftOf sameRow
    by_cases h1 : 0 < row.2.length
    · by_cases h2 : row.1 = (keyE key).1
      · exact .inr (.inr ⟨h1, h2, if_pos ⟨h1, h2⟩⟩)
      · exact .inr (.inl ⟨h1, h2, if_neg (fun h => h2 h.2)⟩)
    · exact .inl ⟨by omega, if_neg (fun h => h1 h.1)⟩
  generalize (if key.length = 12 then 0 else 3 : Nat) = ef at hOf herr
  generalize leftOf row (keyE key) = left at herr hleft
  generalize keyE key = x at hOf herr hleft hokx ⊢
  generalize mayErr row last key = er at herr ⊢
  generalize Lib.compareBytes key last = cmp at hCmp herr
  obtain ⟨x0, x1, x2⟩ := x
  have hx2 : x2 < 4294967296 := hokx.2.2
  simp only at herr hleft
  simp only [edgeV] at hOf ⊢
  have HOf := Lib.hid hOf
  have HCmp := Lib.hid hCmp
  have HSum := Lib.hid hSum
  have Hm := Lib.hid hm
  have Herr := Lib.hid herr
  have Hleft := Lib.hid hleft
  have Hsum := Lib.hid hsum
  generalize sumA row.2 = S at HSum Hleft Hsum
  obtain ⟨fr, arcs⟩ := row
  simp only at Hleft HSum
  generalize hn : arcs.length = n at HSum Hleft
  have Hn := Lib.hid hn
  clear hOf hCmp hSum hm herr hleft hokx h hk hn hlen hsum
  go_enter Try.func45, Try.ntmps45
  go_wp2_with fail
  have hEB : EB w.heap.size w (w.alloc (Obj.cells #[Value.int IntKind.u32 0, Value.int IntKind.u32 0, Value.int IntKind.u32 0] 24)) := by
    constructor <;> first | exact ext_alloc w _ | (simp [go_sem, ↓IntWalk.iteOmega])
  have HEB := Lib.hid hEB
  clear hEB
  go_wp2_with (go_at_call 16; refine (HOf.out _ HEB.out.below).mono ?_; rintro e w2 ⟨rfl, hB2⟩; have HE2 := Lib.hid (HEB.out.ext hB2); clear hB2)
  have hF : ∀ W', Below (w2.alloc (Obj.cells #[Value.int IntKind.u32 x0, Value.int IntKind.u32 x1, Value.int IntKind.u32 x2] 24)).heap.size (w2.alloc (Obj.cells #[Value.int IntKind.u32 x0, Value.int IntKind.u32 x1, Value.int IntKind.u32 x2] 24)) W' →
      (W'.cell? ⟨w2.heap.size, 0, none⟩ = some (.int .u32 (x0 : Nat)) ∧ W'.cell? ⟨w2.heap.size, 1, none⟩ = some (.int .u32 (x1 : Nat)) ∧ W'.cell? ⟨w2.heap.size, 2, none⟩ = some (.int .u32 (x2 : Nat))) ∧ EB w.heap.size w W' ∧ MG m (fr, arcs) last ao cap g lo lc W' ∧ w2.heap.size < W'.heap.size := by
    intro W' hB
    have h0 := HE2.out.ext (ext_alloc w2 (Obj.cells #[Value.int IntKind.u32 x0, Value.int IntKind.u32 x1, Value.int IntKind.u32 x2] 24))
    have h1 := h0.ext hB
    have hs := hB.size
    refine ⟨⟨((bcell hB).1 _ 0 (by simp)).trans (by simp [go_sem]), ((bcell hB).1 _ 1 (by simp)).trans (by simp [go_sem]), ((bcell hB).1 _ 2 (by simp)).trans (by simp [go_sem])⟩, h1, Hm.out _ h1.below, by simp at hs; omega⟩
  have HF := Lib.hid hF
  clear hF
  generalize (w2.alloc (Obj.cells #[Value.int IntKind.u32 x0, Value.int IntKind.u32 x1, Value.int IntKind.u32 x2] 24)) = wX at HF ⊢
  obtain ⟨⟨e0, e1, e2⟩, hEB, hMG, hxs⟩ := HF.out wX (Below.refl _ _)
  obtain ⟨hbw, hbs, z0, z1, z2, v0, v1, v2⟩ := hEB
  have mc0 := hMG.c0
  have mc1 := hMG.c1
  have mc2 := hMG.c2
  simp only at mc0 mc1
  rw [Hn.out] at mc1
  have Hbw := Lib.hid hbw
  have hwb : ¬ w.heap.size = w2.heap.size := by have := HE2.out.size; omega
  have hwb2 : ¬ w2.heap.size = w.heap.size := by omega
  have hmw : ¬ m = w.heap.size := by omega
  have hmb : ¬ m = w2.heap.size := by have := HE2.out.size; omega
  clear hMG hbw
  have hout : (((ef : Int) != 0) = true ∧ er = 3) ∨ (((ef : Int) != 0) = false ∧ ((x2 : Int) == 0) = true ∧ er = 3) ∨ (((ef : Int) != 0) = false ∧ ((x2 : Int) == 0) = false ∧ decide (cmp < 0) = true ∧ er = 13) ∨
      (((ef : Int) != 0) = false ∧ ((x2 : Int) == 0) = false ∧ decide (cmp < 0) = false ∧ left < x2 ∧ er = 10) ∨ (((ef : Int) != 0) = false ∧ ((x2 : Int) == 0) = false ∧ decide (cmp < 0) = false ∧ x2 ≤ left ∧ er = 0) := by
    have h := Herr.out
    by_cases h1 : ef = 0
    · have b1 : ((ef : Int) != 0) = false := by simp [h1]
      by_cases h2 : x2 = 0
      · rw [if_pos (.inr h2)] at h
        exact .inr (.inl ⟨b1, by simp [h2], h⟩)
      · have b2 : ((x2 : Int) == 0) = false := by simp; omega
        rw [if_neg (by omega)] at h
        by_cases h3 : cmp < 0
        · rw [if_pos h3] at h
          exact .inr (.inr (.inl ⟨b1, b2, decide_eq_true h3, h⟩))
        · rw [if_neg h3] at h
          by_cases h4 : left < x2
          · rw [if_pos h4] at h
            exact .inr (.inr (.inr (.inl ⟨b1, b2, decide_eq_false h3, h4, h⟩)))
          · rw [if_neg h4] at h
            exact .inr (.inr (.inr (.inr ⟨b1, b2, decide_eq_false h3, by omega, h⟩)))
    · rw [if_pos (.inl h1)] at h
      exact .inl ⟨by simp; omega, h⟩
  have hsS := Hsum.out
  rcases Hleft.out with ⟨q1, rfl⟩ | ⟨q1, q2, rfl⟩ | ⟨q1, q2, hql⟩
  · have d1 : decide ((0 : Int) < (n : Int)) = false := decide_eq_false (by omega)
    have d1' : decide (0 < n) = false := decide_eq_false (by omega)
    clear q1 Hleft Herr
    rcases hout with ⟨b1, rfl⟩ | ⟨b1, b2, rfl⟩ | ⟨b1, b2, b3, rfl⟩ | ⟨b1, b2, b3, b4, rfl⟩ | ⟨b1, b2, b3, b4, rfl⟩
    · go_quiet (fail)
      go_wp2_with (first
        | (go_at_call 59; refine (HSum.out _ (ext_trans Hbw.out (ext_drewN _ _))).mono ?_; rintro e w3 ⟨rfl, hB3⟩; obtain ⟨⟨e0, e1, e2⟩, hEB, hMG, hxs⟩ := HF.out w3 (ext_trans (ext_drewN _ _) hB3); obtain ⟨hbw, hbs, z0, z1, z2, v0, v1, v2⟩ := hEB; have mc0 := hMG.c0; have mc1 := hMG.c1; have mc2 := hMG.c2; have Hbw := Lib.hid hbw; clear hMG hbw hB3)
        | (go_at_call 60; refine (HCmp.out _ (by first | exact Hbw.out | exact ext_trans Hbw.out (ext_drewN _ _))).mono ?_; rintro e w4 ⟨rfl, rfl⟩))
      refine bodyPost_ret (v := .tuple #[.agg #[.int .u32 (x0 : Nat), .int .u32 (x1 : Nat), .int .u32 (x2 : Nat)], .int .i64 3]) (by simp [results, Try.results45, go_sem, cell_set_ite, ↓IntWalk.iteOmega, z0, z1, z2, e0, e1, e2]) rfl ⟨rfl, ?_⟩
      first
        | exact (((Hbw.out.setCell (by simp) _).setCell (by simp) _).setCell (by simp) _)
        | exact ((((ext_trans Hbw.out (ext_drewN _ _)).setCell (by simp) _).setCell (by simp) _).setCell (by simp) _)
    · go_quiet (fail)
      go_wp2_with (first
        | (go_at_call 59; refine (HSum.out _ (ext_trans Hbw.out (ext_drewN _ _))).mono ?_; rintro e w3 ⟨rfl, hB3⟩; obtain ⟨⟨e0, e1, e2⟩, hEB, hMG, hxs⟩ := HF.out w3 (ext_trans (ext_drewN _ _) hB3); obtain ⟨hbw, hbs, z0, z1, z2, v0, v1, v2⟩ := hEB; have mc0 := hMG.c0; have mc1 := hMG.c1; have mc2 := hMG.c2; have Hbw := Lib.hid hbw; clear hMG hbw hB3)
        | (go_at_call 60; refine (HCmp.out _ (by first | exact Hbw.out | exact ext_trans Hbw.out (ext_drewN _ _))).mono ?_; rintro e w4 ⟨rfl, rfl⟩))
      refine bodyPost_ret (v := .tuple #[.agg #[.int .u32 (x0 : Nat), .int .u32 (x1 : Nat), .int .u32 (x2 : Nat)], .int .i64 3]) (by simp [results, Try.results45, go_sem, cell_set_ite, ↓IntWalk.iteOmega, z0, z1, z2, e0, e1, e2]) rfl ⟨rfl, ?_⟩
      first
        | exact (((Hbw.out.setCell (by simp) _).setCell (by simp) _).setCell (by simp) _)
        | exact ((((ext_trans Hbw.out (ext_drewN _ _)).setCell (by simp) _).setCell (by simp) _).setCell (by simp) _)
    · go_quiet (fail)
      go_wp2_with (first
        | (go_at_call 59; refine (HSum.out _ (ext_trans Hbw.out (ext_drewN _ _))).mono ?_; rintro e w3 ⟨rfl, hB3⟩; obtain ⟨⟨e0, e1, e2⟩, hEB, hMG, hxs⟩ := HF.out w3 (ext_trans (ext_drewN _ _) hB3); obtain ⟨hbw, hbs, z0, z1, z2, v0, v1, v2⟩ := hEB; have mc0 := hMG.c0; have mc1 := hMG.c1; have mc2 := hMG.c2; have Hbw := Lib.hid hbw; clear hMG hbw hB3)
        | (go_at_call 60; refine (HCmp.out _ (by first | exact Hbw.out | exact ext_trans Hbw.out (ext_drewN _ _))).mono ?_; rintro e w4 ⟨rfl, rfl⟩))
      refine bodyPost_ret (v := .tuple #[.agg #[.int .u32 (x0 : Nat), .int .u32 (x1 : Nat), .int .u32 (x2 : Nat)], .int .i64 13]) (by simp [results, Try.results45, go_sem, cell_set_ite, ↓IntWalk.iteOmega, z0, z1, z2, e0, e1, e2]) rfl ⟨rfl, ?_⟩
      first
        | exact (((Hbw.out.setCell (by simp) _).setCell (by simp) _).setCell (by simp) _)
        | exact ((((ext_trans Hbw.out (ext_drewN _ _)).setCell (by simp) _).setCell (by simp) _).setCell (by simp) _)
    · have d3 : decide ((2147483647 : Int) < (x2 : Int)) = true := decide_eq_true (by omega)
      clear b4
      go_quiet (fail)
      go_wp2_with (first
        | (go_at_call 59; refine (HSum.out _ (ext_trans Hbw.out (ext_drewN _ _))).mono ?_; rintro e w3 ⟨rfl, hB3⟩; obtain ⟨⟨e0, e1, e2⟩, hEB, hMG, hxs⟩ := HF.out w3 (ext_trans (ext_drewN _ _) hB3); obtain ⟨hbw, hbs, z0, z1, z2, v0, v1, v2⟩ := hEB; have mc0 := hMG.c0; have mc1 := hMG.c1; have mc2 := hMG.c2; have Hbw := Lib.hid hbw; clear hMG hbw hB3)
        | (go_at_call 60; refine (HCmp.out _ (by first | exact Hbw.out | exact ext_trans Hbw.out (ext_drewN _ _))).mono ?_; rintro e w4 ⟨rfl, rfl⟩))
      refine bodyPost_ret (v := .tuple #[.agg #[.int .u32 (x0 : Nat), .int .u32 (x1 : Nat), .int .u32 (x2 : Nat)], .int .i64 10]) (by simp [results, Try.results45, go_sem, cell_set_ite, ↓IntWalk.iteOmega, z0, z1, z2, e0, e1, e2]) rfl ⟨rfl, ?_⟩
      first
        | exact (((Hbw.out.setCell (by simp) _).setCell (by simp) _).setCell (by simp) _)
        | exact ((((ext_trans Hbw.out (ext_drewN _ _)).setCell (by simp) _).setCell (by simp) _).setCell (by simp) _)
    · have d3 : decide ((2147483647 : Int) < (x2 : Int)) = false := decide_eq_false (by omega)
      clear b4
      go_quiet (fail)
      go_wp2_with (first
        | (go_at_call 59; refine (HSum.out _ (ext_trans Hbw.out (ext_drewN _ _))).mono ?_; rintro e w3 ⟨rfl, hB3⟩; obtain ⟨⟨e0, e1, e2⟩, hEB, hMG, hxs⟩ := HF.out w3 (ext_trans (ext_drewN _ _) hB3); obtain ⟨hbw, hbs, z0, z1, z2, v0, v1, v2⟩ := hEB; have mc0 := hMG.c0; have mc1 := hMG.c1; have mc2 := hMG.c2; have Hbw := Lib.hid hbw; clear hMG hbw hB3)
        | (go_at_call 60; refine (HCmp.out _ (by first | exact Hbw.out | exact ext_trans Hbw.out (ext_drewN _ _))).mono ?_; rintro e w4 ⟨rfl, rfl⟩))
      refine bodyPost_ret (v := .tuple #[.agg #[.int .u32 (x0 : Nat), .int .u32 (x1 : Nat), .int .u32 (x2 : Nat)], .int .i64 0]) (by simp [results, Try.results45, go_sem, cell_set_ite, ↓IntWalk.iteOmega, z0, z1, z2, e0, e1, e2]) rfl ⟨rfl, ?_⟩
      first
        | exact (((Hbw.out.setCell (by simp) _).setCell (by simp) _).setCell (by simp) _)
        | exact ((((ext_trans Hbw.out (ext_drewN _ _)).setCell (by simp) _).setCell (by simp) _).setCell (by simp) _)
  · have d1 : decide ((0 : Int) < (n : Int)) = true := decide_eq_true (by omega)
    have d1' : decide (0 < n) = true := decide_eq_true (by omega)
    have d2 : ((fr : Int) == (x0 : Int)) = false := by simp; omega
    clear q1 q2 Hleft Herr
    rcases hout with ⟨b1, rfl⟩ | ⟨b1, b2, rfl⟩ | ⟨b1, b2, b3, rfl⟩ | ⟨b1, b2, b3, b4, rfl⟩ | ⟨b1, b2, b3, b4, rfl⟩
    · go_quiet (fail)
      go_wp2_with (first
        | (go_at_call 59; refine (HSum.out _ (ext_trans Hbw.out (ext_drewN _ _))).mono ?_; rintro e w3 ⟨rfl, hB3⟩; obtain ⟨⟨e0, e1, e2⟩, hEB, hMG, hxs⟩ := HF.out w3 (ext_trans (ext_drewN _ _) hB3); obtain ⟨hbw, hbs, z0, z1, z2, v0, v1, v2⟩ := hEB; have mc0 := hMG.c0; have mc1 := hMG.c1; have mc2 := hMG.c2; have Hbw := Lib.hid hbw; clear hMG hbw hB3)
        | (go_at_call 60; refine (HCmp.out _ (by first | exact Hbw.out | exact ext_trans Hbw.out (ext_drewN _ _))).mono ?_; rintro e w4 ⟨rfl, rfl⟩))
      refine bodyPost_ret (v := .tuple #[.agg #[.int .u32 (x0 : Nat), .int .u32 (x1 : Nat), .int .u32 (x2 : Nat)], .int .i64 3]) (by simp [results, Try.results45, go_sem, cell_set_ite, ↓IntWalk.iteOmega, z0, z1, z2, e0, e1, e2]) rfl ⟨rfl, ?_⟩
      first
        | exact (((Hbw.out.setCell (by simp) _).setCell (by simp) _).setCell (by simp) _)
        | exact ((((ext_trans Hbw.out (ext_drewN _ _)).setCell (by simp) _).setCell (by simp) _).setCell (by simp) _)
    · go_quiet (fail)
      go_wp2_with (first
        | (go_at_call 59; refine (HSum.out _ (ext_trans Hbw.out (ext_drewN _ _))).mono ?_; rintro e w3 ⟨rfl, hB3⟩; obtain ⟨⟨e0, e1, e2⟩, hEB, hMG, hxs⟩ := HF.out w3 (ext_trans (ext_drewN _ _) hB3); obtain ⟨hbw, hbs, z0, z1, z2, v0, v1, v2⟩ := hEB; have mc0 := hMG.c0; have mc1 := hMG.c1; have mc2 := hMG.c2; have Hbw := Lib.hid hbw; clear hMG hbw hB3)
        | (go_at_call 60; refine (HCmp.out _ (by first | exact Hbw.out | exact ext_trans Hbw.out (ext_drewN _ _))).mono ?_; rintro e w4 ⟨rfl, rfl⟩))
      refine bodyPost_ret (v := .tuple #[.agg #[.int .u32 (x0 : Nat), .int .u32 (x1 : Nat), .int .u32 (x2 : Nat)], .int .i64 3]) (by simp [results, Try.results45, go_sem, cell_set_ite, ↓IntWalk.iteOmega, z0, z1, z2, e0, e1, e2]) rfl ⟨rfl, ?_⟩
      first
        | exact (((Hbw.out.setCell (by simp) _).setCell (by simp) _).setCell (by simp) _)
        | exact ((((ext_trans Hbw.out (ext_drewN _ _)).setCell (by simp) _).setCell (by simp) _).setCell (by simp) _)
    · go_quiet (fail)
      go_wp2_with (first
        | (go_at_call 59; refine (HSum.out _ (ext_trans Hbw.out (ext_drewN _ _))).mono ?_; rintro e w3 ⟨rfl, hB3⟩; obtain ⟨⟨e0, e1, e2⟩, hEB, hMG, hxs⟩ := HF.out w3 (ext_trans (ext_drewN _ _) hB3); obtain ⟨hbw, hbs, z0, z1, z2, v0, v1, v2⟩ := hEB; have mc0 := hMG.c0; have mc1 := hMG.c1; have mc2 := hMG.c2; have Hbw := Lib.hid hbw; clear hMG hbw hB3)
        | (go_at_call 60; refine (HCmp.out _ (by first | exact Hbw.out | exact ext_trans Hbw.out (ext_drewN _ _))).mono ?_; rintro e w4 ⟨rfl, rfl⟩))
      refine bodyPost_ret (v := .tuple #[.agg #[.int .u32 (x0 : Nat), .int .u32 (x1 : Nat), .int .u32 (x2 : Nat)], .int .i64 13]) (by simp [results, Try.results45, go_sem, cell_set_ite, ↓IntWalk.iteOmega, z0, z1, z2, e0, e1, e2]) rfl ⟨rfl, ?_⟩
      first
        | exact (((Hbw.out.setCell (by simp) _).setCell (by simp) _).setCell (by simp) _)
        | exact ((((ext_trans Hbw.out (ext_drewN _ _)).setCell (by simp) _).setCell (by simp) _).setCell (by simp) _)
    · have d3 : decide ((2147483647 : Int) < (x2 : Int)) = true := decide_eq_true (by omega)
      clear b4
      go_quiet (fail)
      go_wp2_with (first
        | (go_at_call 59; refine (HSum.out _ (ext_trans Hbw.out (ext_drewN _ _))).mono ?_; rintro e w3 ⟨rfl, hB3⟩; obtain ⟨⟨e0, e1, e2⟩, hEB, hMG, hxs⟩ := HF.out w3 (ext_trans (ext_drewN _ _) hB3); obtain ⟨hbw, hbs, z0, z1, z2, v0, v1, v2⟩ := hEB; have mc0 := hMG.c0; have mc1 := hMG.c1; have mc2 := hMG.c2; have Hbw := Lib.hid hbw; clear hMG hbw hB3)
        | (go_at_call 60; refine (HCmp.out _ (by first | exact Hbw.out | exact ext_trans Hbw.out (ext_drewN _ _))).mono ?_; rintro e w4 ⟨rfl, rfl⟩))
      refine bodyPost_ret (v := .tuple #[.agg #[.int .u32 (x0 : Nat), .int .u32 (x1 : Nat), .int .u32 (x2 : Nat)], .int .i64 10]) (by simp [results, Try.results45, go_sem, cell_set_ite, ↓IntWalk.iteOmega, z0, z1, z2, e0, e1, e2]) rfl ⟨rfl, ?_⟩
      first
        | exact (((Hbw.out.setCell (by simp) _).setCell (by simp) _).setCell (by simp) _)
        | exact ((((ext_trans Hbw.out (ext_drewN _ _)).setCell (by simp) _).setCell (by simp) _).setCell (by simp) _)
    · have d3 : decide ((2147483647 : Int) < (x2 : Int)) = false := decide_eq_false (by omega)
      clear b4
      go_quiet (fail)
      go_wp2_with (first
        | (go_at_call 59; refine (HSum.out _ (ext_trans Hbw.out (ext_drewN _ _))).mono ?_; rintro e w3 ⟨rfl, hB3⟩; obtain ⟨⟨e0, e1, e2⟩, hEB, hMG, hxs⟩ := HF.out w3 (ext_trans (ext_drewN _ _) hB3); obtain ⟨hbw, hbs, z0, z1, z2, v0, v1, v2⟩ := hEB; have mc0 := hMG.c0; have mc1 := hMG.c1; have mc2 := hMG.c2; have Hbw := Lib.hid hbw; clear hMG hbw hB3)
        | (go_at_call 60; refine (HCmp.out _ (by first | exact Hbw.out | exact ext_trans Hbw.out (ext_drewN _ _))).mono ?_; rintro e w4 ⟨rfl, rfl⟩))
      refine bodyPost_ret (v := .tuple #[.agg #[.int .u32 (x0 : Nat), .int .u32 (x1 : Nat), .int .u32 (x2 : Nat)], .int .i64 0]) (by simp [results, Try.results45, go_sem, cell_set_ite, ↓IntWalk.iteOmega, z0, z1, z2, e0, e1, e2]) rfl ⟨rfl, ?_⟩
      first
        | exact (((Hbw.out.setCell (by simp) _).setCell (by simp) _).setCell (by simp) _)
        | exact ((((ext_trans Hbw.out (ext_drewN _ _)).setCell (by simp) _).setCell (by simp) _).setCell (by simp) _)
  · have d1 : decide ((0 : Int) < (n : Int)) = true := decide_eq_true (by omega)
    have d1' : decide (0 < n) = true := decide_eq_true (by omega)
    have d2 : ((fr : Int) == (x0 : Int)) = true := by simp; omega
    clear q1 q2 Hleft Herr
    rcases hout with ⟨b1, rfl⟩ | ⟨b1, b2, rfl⟩ | ⟨b1, b2, b3, rfl⟩ | ⟨b1, b2, b3, b4, rfl⟩ | ⟨b1, b2, b3, b4, rfl⟩
    · go_quiet (fail)
      go_wp2_with (first
        | (go_at_call 59; refine (HSum.out _ (ext_trans Hbw.out (ext_drewN _ _))).mono ?_; rintro e w3 ⟨rfl, hB3⟩; obtain ⟨⟨e0, e1, e2⟩, hEB, hMG, hxs⟩ := HF.out w3 (ext_trans (ext_drewN _ _) hB3); obtain ⟨hbw, hbs, z0, z1, z2, v0, v1, v2⟩ := hEB; have mc0 := hMG.c0; have mc1 := hMG.c1; have mc2 := hMG.c2; have Hbw := Lib.hid hbw; clear hMG hbw hB3)
        | (go_at_call 60; refine (HCmp.out _ (by first | exact Hbw.out | exact ext_trans Hbw.out (ext_drewN _ _))).mono ?_; rintro e w4 ⟨rfl, rfl⟩))
      refine bodyPost_ret (v := .tuple #[.agg #[.int .u32 (x0 : Nat), .int .u32 (x1 : Nat), .int .u32 (x2 : Nat)], .int .i64 3]) (by simp [results, Try.results45, go_sem, cell_set_ite, ↓IntWalk.iteOmega, z0, z1, z2, e0, e1, e2]) rfl ⟨rfl, ?_⟩
      first
        | exact (((Hbw.out.setCell (by simp) _).setCell (by simp) _).setCell (by simp) _)
        | exact ((((ext_trans Hbw.out (ext_drewN _ _)).setCell (by simp) _).setCell (by simp) _).setCell (by simp) _)
    · go_quiet (fail)
      go_wp2_with (first
        | (go_at_call 59; refine (HSum.out _ (ext_trans Hbw.out (ext_drewN _ _))).mono ?_; rintro e w3 ⟨rfl, hB3⟩; obtain ⟨⟨e0, e1, e2⟩, hEB, hMG, hxs⟩ := HF.out w3 (ext_trans (ext_drewN _ _) hB3); obtain ⟨hbw, hbs, z0, z1, z2, v0, v1, v2⟩ := hEB; have mc0 := hMG.c0; have mc1 := hMG.c1; have mc2 := hMG.c2; have Hbw := Lib.hid hbw; clear hMG hbw hB3)
        | (go_at_call 60; refine (HCmp.out _ (by first | exact Hbw.out | exact ext_trans Hbw.out (ext_drewN _ _))).mono ?_; rintro e w4 ⟨rfl, rfl⟩))
      refine bodyPost_ret (v := .tuple #[.agg #[.int .u32 (x0 : Nat), .int .u32 (x1 : Nat), .int .u32 (x2 : Nat)], .int .i64 3]) (by simp [results, Try.results45, go_sem, cell_set_ite, ↓IntWalk.iteOmega, z0, z1, z2, e0, e1, e2]) rfl ⟨rfl, ?_⟩
      first
        | exact (((Hbw.out.setCell (by simp) _).setCell (by simp) _).setCell (by simp) _)
        | exact ((((ext_trans Hbw.out (ext_drewN _ _)).setCell (by simp) _).setCell (by simp) _).setCell (by simp) _)
    · go_quiet (fail)
      go_wp2_with (first
        | (go_at_call 59; refine (HSum.out _ (ext_trans Hbw.out (ext_drewN _ _))).mono ?_; rintro e w3 ⟨rfl, hB3⟩; obtain ⟨⟨e0, e1, e2⟩, hEB, hMG, hxs⟩ := HF.out w3 (ext_trans (ext_drewN _ _) hB3); obtain ⟨hbw, hbs, z0, z1, z2, v0, v1, v2⟩ := hEB; have mc0 := hMG.c0; have mc1 := hMG.c1; have mc2 := hMG.c2; have Hbw := Lib.hid hbw; clear hMG hbw hB3)
        | (go_at_call 60; refine (HCmp.out _ (by first | exact Hbw.out | exact ext_trans Hbw.out (ext_drewN _ _))).mono ?_; rintro e w4 ⟨rfl, rfl⟩))
      refine bodyPost_ret (v := .tuple #[.agg #[.int .u32 (x0 : Nat), .int .u32 (x1 : Nat), .int .u32 (x2 : Nat)], .int .i64 13]) (by simp [results, Try.results45, go_sem, cell_set_ite, ↓IntWalk.iteOmega, z0, z1, z2, e0, e1, e2]) rfl ⟨rfl, ?_⟩
      first
        | exact (((Hbw.out.setCell (by simp) _).setCell (by simp) _).setCell (by simp) _)
        | exact ((((ext_trans Hbw.out (ext_drewN _ _)).setCell (by simp) _).setCell (by simp) _).setCell (by simp) _)
    · have d3 : decide ((2147483647 : Int) - (S : Int) < (x2 : Int)) = true := decide_eq_true (by omega)
      clear b4
      go_quiet (fail)
      go_wp2_with (first
        | (go_at_call 59; refine (HSum.out _ (ext_trans Hbw.out (ext_drewN _ _))).mono ?_; rintro e w3 ⟨rfl, hB3⟩; obtain ⟨⟨e0, e1, e2⟩, hEB, hMG, hxs⟩ := HF.out w3 (ext_trans (ext_drewN _ _) hB3); obtain ⟨hbw, hbs, z0, z1, z2, v0, v1, v2⟩ := hEB; have mc0 := hMG.c0; have mc1 := hMG.c1; have mc2 := hMG.c2; have Hbw := Lib.hid hbw; clear hMG hbw hB3)
        | (go_at_call 60; refine (HCmp.out _ (by first | exact Hbw.out | exact ext_trans Hbw.out (ext_drewN _ _))).mono ?_; rintro e w4 ⟨rfl, rfl⟩))
      refine bodyPost_ret (v := .tuple #[.agg #[.int .u32 (x0 : Nat), .int .u32 (x1 : Nat), .int .u32 (x2 : Nat)], .int .i64 10]) (by simp [results, Try.results45, go_sem, cell_set_ite, ↓IntWalk.iteOmega, z0, z1, z2, e0, e1, e2]) rfl ⟨rfl, ?_⟩
      first
        | exact (((Hbw.out.setCell (by simp) _).setCell (by simp) _).setCell (by simp) _)
        | exact ((((ext_trans Hbw.out (ext_drewN _ _)).setCell (by simp) _).setCell (by simp) _).setCell (by simp) _)
    · have d3 : decide ((2147483647 : Int) - (S : Int) < (x2 : Int)) = false := decide_eq_false (by omega)
      clear b4
      go_quiet (fail)
      go_wp2_with (first
        | (go_at_call 59; refine (HSum.out _ (ext_trans Hbw.out (ext_drewN _ _))).mono ?_; rintro e w3 ⟨rfl, hB3⟩; obtain ⟨⟨e0, e1, e2⟩, hEB, hMG, hxs⟩ := HF.out w3 (ext_trans (ext_drewN _ _) hB3); obtain ⟨hbw, hbs, z0, z1, z2, v0, v1, v2⟩ := hEB; have mc0 := hMG.c0; have mc1 := hMG.c1; have mc2 := hMG.c2; have Hbw := Lib.hid hbw; clear hMG hbw hB3)
        | (go_at_call 60; refine (HCmp.out _ (by first | exact Hbw.out | exact ext_trans Hbw.out (ext_drewN _ _))).mono ?_; rintro e w4 ⟨rfl, rfl⟩))
      refine bodyPost_ret (v := .tuple #[.agg #[.int .u32 (x0 : Nat), .int .u32 (x1 : Nat), .int .u32 (x2 : Nat)], .int .i64 0]) (by simp [results, Try.results45, go_sem, cell_set_ite, ↓IntWalk.iteOmega, z0, z1, z2, e0, e1, e2]) rfl ⟨rfl, ?_⟩
      first
        | exact (((Hbw.out.setCell (by simp) _).setCell (by simp) _).setCell (by simp) _)
        | exact ((((ext_trans Hbw.out (ext_drewN _ _)).setCell (by simp) _).setCell (by simp) _).setCell (by simp) _)
end Go.Proofs.Ytafbjkbdfdeacaa
