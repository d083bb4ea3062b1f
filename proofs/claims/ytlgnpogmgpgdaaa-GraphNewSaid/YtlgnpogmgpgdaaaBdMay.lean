/- Texts merged into one: MergeMay, MergeTake, MergeSame, MergePlain. -/
import Derived.Test.YtlgnpogmgpgdaaaBdKey
import Derived.Test.YtlgnpogmgpgdaaaRoundQuiet
namespace Go.Proofs.Ytlgnpogmgpgdaaa
set_option linter.unusedSimpArgs false
set_option linter.unusedVariables false
set_option maxRecDepth 100000
open Go.RowKit

abbrev RowD := Nat × List ArcD
/-- the row that isn't told yet, and the key that was taken last, in block m -/
structure MG (m : Nat) (row : RowD) (last : List UInt8) (ao : Option Addr) (cap : Nat) (g : Option Nat) (lo : Option Addr) (lc : Nat) (W : World) : Prop where
  c0 : W.cell? ⟨m, 0, none⟩ = some (.int .u32 (row.1 : Nat))
  c1 : W.cell? ⟨m, 1, none⟩ = some (.slice ao row.2.length cap)
  c2 : W.cell? ⟨m, 2, none⟩ = some (.slice lo last.length lc)
  f0 : W.frozen? ⟨m, 0, none⟩ = false
  f1 : W.frozen? ⟨m, 1, none⟩ = false
  f2 : W.frozen? ⟨m, 2, none⟩ = false
  own : OwnS arcRep (fun _ => False) W ao cap g 42 row.2
  rd : Rd W lo last.length (byteVals last)
  lt : m < W.heap.size
  ne : g ≠ some m
  lne : ∀ b off, lo = some ⟨b, off, none⟩ → 0 < last.length → b ≠ m ∧ g ≠ some b
theorem MG.ext {m : Nat} {row : RowD} {last : List UInt8} {ao : Option Addr} {cap : Nat} {g : Option Nat} {lo : Option Addr} {lc : Nat} {W W' : World} (h : MG m row last ao cap g lo lc W) (hB : Below W.heap.size W W') : MG m row last ao cap g lo lc W' := by
  obtain ⟨c0, c1, c2, f0, f1, f2, o, r, l, n, ln⟩ := h
  have hs := hB.size
  exact ⟨((bcell hB).1 _ _ l).trans c0, ((bcell hB).1 _ _ l).trans c1, ((bcell hB).1 _ _ l).trans c2, ((bcell hB).2 _ _ l).trans f0, ((bcell hB).2 _ _ l).trans f1, ((bcell hB).2 _ _ l).trans f2, o.ext hB, r.ext hB, by omega, n, ln⟩

/-- .. its arcs may be another's meanwhile -/
structure MH (m : Nat) (row : RowD) (last : List UInt8) (ao : Option Addr) (cap : Nat) (lo : Option Addr) (lc : Nat) (W : World) : Prop where
  c0 : W.cell? ⟨m, 0, none⟩ = some (.int .u32 (row.1 : Nat))
  c1 : W.cell? ⟨m, 1, none⟩ = some (.slice ao row.2.length cap)
  c2 : W.cell? ⟨m, 2, none⟩ = some (.slice lo last.length lc)
  f0 : W.frozen? ⟨m, 0, none⟩ = false
  f1 : W.frozen? ⟨m, 1, none⟩ = false
  f2 : W.frozen? ⟨m, 2, none⟩ = false
  rd : Rd W lo last.length (byteVals last)
  lt : m < W.heap.size
  lne : ∀ b off, lo = some ⟨b, off, none⟩ → 0 < last.length → b ≠ m
theorem MG.toH {m : Nat} {row : RowD} {last : List UInt8} {ao : Option Addr} {cap : Nat} {g : Option Nat} {lo : Option Addr} {lc : Nat} {W : World} (h : MG m row last ao cap g lo lc W) : MH m row last ao cap lo lc W :=
  ⟨h.c0, h.c1, h.c2, h.f0, h.f1, h.f2, h.rd, h.lt, fun b off e h0 => (h.lne b off e h0).1⟩
theorem MH.only {m : Nat} {row : RowD} {last : List UInt8} {ao : Option Addr} {cap : Nat} {lo : Option Addr} {lc : Nat} {W W' : World} {fp : Nat → Prop} (h : MH m row last ao cap lo lc W) (hs : Only fp W W') (hm : ¬ fp m) (hl : 0 < last.length → ∀ b off, lo = some ⟨b, off, none⟩ → ¬ fp b) : MH m row last ao cap lo lc W' :=
  ⟨(hs.cell h.lt hm 0).trans h.c0, (hs.cell h.lt hm 1).trans h.c1, (hs.cell h.lt hm 2).trans h.c2, (hs.frozen h.lt hm 0).trans h.f0, (hs.frozen h.lt hm 1).trans h.f1, (hs.frozen h.lt hm 2).trans h.f2,
    h.rd.only hs (fun h0 k off e => hl h0 k off e), Nat.lt_of_lt_of_le h.lt hs.size, h.lne⟩
theorem MH.ext {m : Nat} {row : RowD} {last : List UInt8} {ao : Option Addr} {cap : Nat} {lo : Option Addr} {lc : Nat} {W W' : World} (h : MH m row last ao cap lo lc W) (hB : Below W.heap.size W W') : MH m row last ao cap lo lc W' :=
  h.only (Only.of_below (fp := fun _ => False) hB) (fun h => h) (fun _ _ _ _ h => h)

def fullB (row : RowD) (x : EdgeD) : Bool := decide (0 < row.2.length) && !(row.1 == x.1)
set_option maxRecDepth 100000 in
set_option maxHeartbeats 1600000 in
theorem full_any (m : Nat) (row : RowD) (last : List UInt8) (ao : Option Addr) (cap : Nat) (lo : Option Addr) (lc : Nat) (x : EdgeD) (w : World) (h : MH m row last ao cap lo lc w) :
    Calls Try.prog 123 #[.pointer (some ⟨m, 0, none⟩), edgeV x] w fun e w' => e = .returned (.bool (fullB row x)) ∧ Below w.heap.size w w' := by
  obtain ⟨fr, arcs⟩ := row
  obtain ⟨x0, x1, x2⟩ := x
  have hc0 := h.c0
  have hc1 := h.c1
  have hlt := h.lt
  clear h
  simp only at hc0 hc1
  unfold edgeV fullB
  simp only
  have hB : Below w.heap.size w (w.alloc (Obj.cells #[Value.int IntKind.u32 x0, Value.int IntKind.u32 x1, Value.int IntKind.u32 x2] 56)) := ext_alloc w _
  have hnm : ¬ m = w.heap.size := by omega
  have hnm2 : ¬ w.heap.size = m := by omega
  generalize arcs.length = n at hc1 ⊢
  by_cases h0 : 0 < n
  · have hd : decide ((0 : Int) < (n : Int)) = true := decide_eq_true (by omega)
    have hd' : decide (0 < n) = true := decide_eq_true h0
    by_cases h1 : fr = x0
    · have he : ((fr : Int) != (x0 : Int)) = false := by simp [h1]
      have Hr := Lib.hid (show (decide (0 < n) && !(fr == x0)) = false by simp [h1])
      clear h0 h1
      go_enter Try.func123, Try.ntmps123
      go_wp2
      go_quiet (fail)
      go_wp2
      go_ret
      exact ⟨by rw [Hr.out]; rfl, below_drewN hB _⟩
    · have he : ((fr : Int) != (x0 : Int)) = true := by simp; omega
      have Hr := Lib.hid (show (decide (0 < n) && !(fr == x0)) = true by simp [h0, h1])
      clear h0 h1
      go_enter Try.func123, Try.ntmps123
      go_wp2
      go_quiet (fail)
      go_wp2
      go_ret
      exact ⟨by rw [Hr.out]; rfl, below_drewN hB _⟩
  · have hd : decide ((0 : Int) < (n : Int)) = false := decide_eq_false (by omega)
    have hd' : decide (0 < n) = false := decide_eq_false h0
    have Hr := Lib.hid (show (decide (0 < n) && !(fr == x0)) = false by simp [h0])
    clear h0
    go_enter Try.func123, Try.ntmps123
    go_wp2
    go_quiet (fail)
    go_wp2
    go_ret
    exact ⟨by rw [Hr.out]; rfl, below_drewN hB _⟩

/-- a key's edge -/
def keyE (k : List UInt8) : EdgeD := if k.length = 12 then keyOf k else (0, 0, 0)
def sameRow (row : RowD) (x : EdgeD) : Prop := 0 < row.2.length ∧ row.1 = x.1
instance (row : RowD) (x : EdgeD) : Decidable (sameRow row x) := inferInstanceAs (Decidable (_ ∧ _))
def leftOf (row : RowD) (x : EdgeD) : Nat := if sameRow row x then 2147483647 - sumA row.2 else 2147483647
/-- why a key can't be taken -/
def mayErr (row : RowD) (last key : List UInt8) : Nat :=
  if key.length ≠ 12 ∨ (keyE key).2.2 = 0 then 3 else if Lib.compareBytes key last < 0 then 13 else if leftOf row (keyE key) < (keyE key).2.2 then 10 else 0
theorem keyE_ok (k : List UInt8) : okE (keyE k) := by
  unfold keyE
  split
  · rename_i h
    obtain ⟨_, h1, h2, h3⟩ := key3_keyOf k h
    exact ⟨h1, h2, h3⟩
  · exact ⟨by simp, by simp, by simp⟩
theorem mof_any (l : List UInt8) (ao : Option Addr) (cap : Nat) (w : World) (hrd : Rd w ao l.length (byteVals l)) :
    Calls Try.prog 141 #[.slice ao l.length cap] w fun e w' => e = .returned (.tuple #[edgeV (keyE l), .int .i64 ((if l.length = 12 then 0 else 3 : Nat) : Nat)]) ∧ Below w.heap.size w w' := by
  by_cases h : l.length = 12
  · have := mof_yes l ao cap w h hrd
    unfold keyE
    rw [if_pos h, if_pos h]
    exact this
  · have := mof_no l.length cap ao w h
    unfold keyE
    rw [if_neg h, if_neg h]
    exact this

set_option maxRecDepth 100000 in
set_option maxHeartbeats 3200000 in
theorem gmay14_any (m : Nat) (row : RowD) (last key : List UInt8) (ao : Option Addr) (cap : Nat) (g : Option Nat) (lo : Option Addr) (lc : Nat) (ko : Option Addr) (kc : Nat) (w : World) (h : MG m row last ao cap g lo lc w) (hk : Rd w ko key.length (byteVals key)) (hlen : row.2.length ≤ 1073741824) (hsum : sumA row.2 ≤ 2147483647) :
    Calls Try.prog 122 #[.pointer (some ⟨m, 0, none⟩), .slice ko key.length kc] w fun e w' => e = .returned (.tuple #[edgeV (keyE key), .int .i64 (mayErr row last key : Nat)]) ∧ Below w.heap.size w w' := by
  have hOf := fun (W : World) (hB : Below w.heap.size w W) => mof_any key ko kc W (hk.ext hB)
  have hCmp := fun (W : World) (hB : Below w.heap.size w W) => bcompare_any key last ko lo kc lc W (hk.ext hB) (h.rd.ext hB)
  have hSum := fun (W : World) (hB : Below w.heap.size w W) => gsum_any row.2 ao cap _ W hlen (h.own.ext hB).rd
  have hm := fun (W : World) (hB : Below w.heap.size w W) => h.ext hB
  have hmlt := h.lt
  have hokx := keyE_ok key
  have herr : mayErr row last key = if (if key.length = 12 then 0 else 3) ≠ 0 ∨ (keyE key).2.2 = 0 then 3 else if Lib.compareBytes key last < 0 then 13 else if leftOf row (keyE key) < (keyE key).2.2 then 10 else 0 := by
    unfold mayErr
    by_cases h12 : key.length = 12 <;> simp [h12]
  have hleft : (row.2.length = 0 ∧ leftOf row (keyE key) = 2147483647) ∨ (0 < row.2.length ∧ row.1 ≠ (keyE key).1 ∧ leftOf row (keyE key) = 2147483647) ∨ (0 < row.2.length ∧ row.1 = (keyE key).1 ∧ leftOf row (keyE key) = 2147483647 - sumA row.2) := by
    unfold leftOf sameRow
    by_cases h1 : 0 < row.2.length
    · by_cases h2 : row.1 = (keyE key).1
      · exact .inr (.inr ⟨h1, h2, if_pos ⟨h1, h2⟩⟩)
      · exact .inr (.inl ⟨h1, h2, if_neg (fun h => h2 h.2)⟩)
    · exact .inl ⟨by omega, if_neg (fun h => h1 h.1)⟩
  generalize (if key.length = 12 then 0 else 3 : Nat) = ef at hOf herr
  generalize leftOf row (keyE key) = left at herr hleft
  generalize keyE key = x at hOf herr hleft hokx ⊢
  generalize mayErr row last key = er at herr ⊢
  generalize Lib.compareBytes key last = cmp at hCmp herr
  obtain ⟨x0, x1, x2⟩ := x
  have hx2 : x2 < 4294967296 := hokx.2.2
  simp only at herr hleft
  simp only [edgeV] at hOf ⊢
  have HOf := Lib.hid hOf
  have HCmp := Lib.hid hCmp
  have HSum := Lib.hid hSum
  have Hm := Lib.hid hm
  have Herr := Lib.hid herr
  have Hleft := Lib.hid hleft
  have Hsum := Lib.hid hsum
  generalize sumA row.2 = S at HSum Hleft Hsum
  obtain ⟨fr, arcs⟩ := row
  simp only at Hleft HSum
  generalize hn : arcs.length = n at HSum Hleft
  have Hn := Lib.hid hn
  clear hOf hCmp hSum hm herr hleft hokx h hk hn hlen hsum
  go_enter Try.func122, Try.ntmps122
  go_wp2_with fail
  have hEB : EB w.heap.size w (w.alloc (Obj.cells #[Value.int IntKind.u32 0, Value.int IntKind.u32 0, Value.int IntKind.u32 0] 56)) := by
    constructor <;> first | exact ext_alloc w _ | (simp [go_sem, ↓IntWalk.iteOmega])
  have HEB := Lib.hid hEB
  clear hEB
  go_wp2_with (go_at_call 141; refine (HOf.out _ HEB.out.below).mono ?_; rintro e w2 ⟨rfl, hB2⟩; have HE2 := Lib.hid (HEB.out.ext hB2); clear hB2)
  have hF : ∀ W', Below (w2.alloc (Obj.cells #[Value.int IntKind.u32 x0, Value.int IntKind.u32 x1, Value.int IntKind.u32 x2] 56)).heap.size (w2.alloc (Obj.cells #[Value.int IntKind.u32 x0, Value.int IntKind.u32 x1, Value.int IntKind.u32 x2] 56)) W' →
      (W'.cell? ⟨w2.heap.size, 0, none⟩ = some (.int .u32 (x0 : Nat)) ∧ W'.cell? ⟨w2.heap.size, 1, none⟩ = some (.int .u32 (x1 : Nat)) ∧ W'.cell? ⟨w2.heap.size, 2, none⟩ = some (.int .u32 (x2 : Nat))) ∧ EB w.heap.size w W' ∧ MG m (fr, arcs) last ao cap g lo lc W' ∧ w2.heap.size < W'.heap.size := by
    intro W' hB
    have h0 := HE2.out.ext (ext_alloc w2 (Obj.cells #[Value.int IntKind.u32 x0, Value.int IntKind.u32 x1, Value.int IntKind.u32 x2] 56))
    have h1 := h0.ext hB
    have hs := hB.size
    refine ⟨⟨((bcell hB).1 _ 0 (by simp)).trans (by simp [go_sem]), ((bcell hB).1 _ 1 (by simp)).trans (by simp [go_sem]), ((bcell hB).1 _ 2 (by simp)).trans (by simp [go_sem])⟩, h1, Hm.out _ h1.below, by simp at hs; omega⟩
  have HF := Lib.hid hF
  clear hF
  generalize (w2.alloc (Obj.cells #[Value.int IntKind.u32 x0, Value.int IntKind.u32 x1, Value.int IntKind.u32 x2] 56)) = wX at HF ⊢
  obtain ⟨⟨e0, e1, e2⟩, hEB, hMG, hxs⟩ := HF.out wX (Below.refl _ _)
  obtain ⟨hbw, hbs, z0, z1, z2, v0, v1, v2⟩ := hEB
  have mc0 := hMG.c0
  have mc1 := hMG.c1
  have mc2 := hMG.c2
  simp only at mc0 mc1
  rw [Hn.out] at mc1
  have Hbw := Lib.hid hbw
  have hwb : ¬ w.heap.size = w2.heap.size := by have := HE2.out.size; omega
  have hwb2 : ¬ w2.heap.size = w.heap.size := by omega
  have hmw : ¬ m = w.heap.size := by omega
  have hmb : ¬ m = w2.heap.size := by have := HE2.out.size; omega
  clear hMG hbw
  have hout : (((ef : Int) != 0) = true ∧ er = 3) ∨ (((ef : Int) != 0) = false ∧ ((x2 : Int) == 0) = true ∧ er = 3) ∨ (((ef : Int) != 0) = false ∧ ((x2 : Int) == 0) = false ∧ decide (cmp < 0) = true ∧ er = 13) ∨
      (((ef : Int) != 0) = false ∧ ((x2 : Int) == 0) = false ∧ decide (cmp < 0) = false ∧ left < x2 ∧ er = 10) ∨ (((ef : Int) != 0) = false ∧ ((x2 : Int) == 0) = false ∧ decide (cmp < 0) = false ∧ x2 ≤ left ∧ er = 0) := by
    have h := Herr.out
    by_cases h1 : ef = 0
    · have b1 : ((ef : Int) != 0) = false := by simp [h1]
      by_cases h2 : x2 = 0
      · rw [if_pos (.inr h2)] at h
        exact .inr (.inl ⟨b1, by simp [h2], h⟩)
      · have b2 : ((x2 : Int) == 0) = false := by simp; omega
        rw [if_neg (by omega)] at h
        by_cases h3 : cmp < 0
        · rw [if_pos h3] at h
          exact .inr (.inr (.inl ⟨b1, b2, decide_eq_true h3, h⟩))
        · rw [if_neg h3] at h
          by_cases h4 : left < x2
          · rw [if_pos h4] at h
            exact .inr (.inr (.inr (.inl ⟨b1, b2, decide_eq_false h3, h4, h⟩)))
          · rw [if_neg h4] at h
            exact .inr (.inr (.inr (.inr ⟨b1, b2, decide_eq_false h3, by omega, h⟩)))
    · rw [if_pos (.inl h1)] at h
      exact .inl ⟨by simp; omega, h⟩
  have hsS := Hsum.out
  rcases Hleft.out with ⟨q1, rfl⟩ | ⟨q1, q2, rfl⟩ | ⟨q1, q2, hql⟩
  · have d1 : decide ((0 : Int) < (n : Int)) = false := decide_eq_false (by omega)
    have d1' : decide (0 < n) = false := decide_eq_false (by omega)
    clear q1 Hleft Herr
    rcases hout with ⟨b1, rfl⟩ | ⟨b1, b2, rfl⟩ | ⟨b1, b2, b3, rfl⟩ | ⟨b1, b2, b3, b4, rfl⟩ | ⟨b1, b2, b3, b4, rfl⟩
    · go_quiet (fail)
      go_wp2_with (first
        | (go_at_call 77; refine (HSum.out _ (ext_trans Hbw.out (ext_drewN _ _))).mono ?_; rintro e w3 ⟨rfl, hB3⟩; obtain ⟨⟨e0, e1, e2⟩, hEB, hMG, hxs⟩ := HF.out w3 (ext_trans (ext_drewN _ _) hB3); obtain ⟨hbw, hbs, z0, z1, z2, v0, v1, v2⟩ := hEB; have mc0 := hMG.c0; have mc1 := hMG.c1; have mc2 := hMG.c2; have Hbw := Lib.hid hbw; clear hMG hbw hB3)
        | (go_at_call 66; refine (HCmp.out _ (by first | exact Hbw.out | exact ext_trans Hbw.out (ext_drewN _ _))).mono ?_; rintro e w4 ⟨rfl, rfl⟩))
      refine bodyPost_ret (v := .tuple #[.agg #[.int .u32 (x0 : Nat), .int .u32 (x1 : Nat), .int .u32 (x2 : Nat)], .int .i64 3]) (by simp [results, Try.results122, go_sem, cell_set_ite, ↓IntWalk.iteOmega, z0, z1, z2, e0, e1, e2]) rfl ⟨rfl, ?_⟩
      first
        | exact (((Hbw.out.setCell (by simp) _).setCell (by simp) _).setCell (by simp) _)
        | exact ((((ext_trans Hbw.out (ext_drewN _ _)).setCell (by simp) _).setCell (by simp) _).setCell (by simp) _)
    · go_quiet (fail)
      go_wp2_with (first
        | (go_at_call 77; refine (HSum.out _ (ext_trans Hbw.out (ext_drewN _ _))).mono ?_; rintro e w3 ⟨rfl, hB3⟩; obtain ⟨⟨e0, e1, e2⟩, hEB, hMG, hxs⟩ := HF.out w3 (ext_trans (ext_drewN _ _) hB3); obtain ⟨hbw, hbs, z0, z1, z2, v0, v1, v2⟩ := hEB; have mc0 := hMG.c0; have mc1 := hMG.c1; have mc2 := hMG.c2; have Hbw := Lib.hid hbw; clear hMG hbw hB3)
        | (go_at_call 66; refine (HCmp.out _ (by first | exact Hbw.out | exact ext_trans Hbw.out (ext_drewN _ _))).mono ?_; rintro e w4 ⟨rfl, rfl⟩))
      refine bodyPost_ret (v := .tuple #[.agg #[.int .u32 (x0 : Nat), .int .u32 (x1 : Nat), .int .u32 (x2 : Nat)], .int .i64 3]) (by simp [results, Try.results122, go_sem, cell_set_ite, ↓IntWalk.iteOmega, z0, z1, z2, e0, e1, e2]) rfl ⟨rfl, ?_⟩
      first
        | exact (((Hbw.out.setCell (by simp) _).setCell (by simp) _).setCell (by simp) _)
        | exact ((((ext_trans Hbw.out (ext_drewN _ _)).setCell (by simp) _).setCell (by simp) _).setCell (by simp) _)
    · go_quiet (fail)
      go_wp2_with (first
        | (go_at_call 77; refine (HSum.out _ (ext_trans Hbw.out (ext_drewN _ _))).mono ?_; rintro e w3 ⟨rfl, hB3⟩; obtain ⟨⟨e0, e1, e2⟩, hEB, hMG, hxs⟩ := HF.out w3 (ext_trans (ext_drewN _ _) hB3); obtain ⟨hbw, hbs, z0, z1, z2, v0, v1, v2⟩ := hEB; have mc0 := hMG.c0; have mc1 := hMG.c1; have mc2 := hMG.c2; have Hbw := Lib.hid hbw; clear hMG hbw hB3)
        | (go_at_call 66; refine (HCmp.out _ (by first | exact Hbw.out | exact ext_trans Hbw.out (ext_drewN _ _))).mono ?_; rintro e w4 ⟨rfl, rfl⟩))
      refine bodyPost_ret (v := .tuple #[.agg #[.int .u32 (x0 : Nat), .int .u32 (x1 : Nat), .int .u32 (x2 : Nat)], .int .i64 13]) (by simp [results, Try.results122, go_sem, cell_set_ite, ↓IntWalk.iteOmega, z0, z1, z2, e0, e1, e2]) rfl ⟨rfl, ?_⟩
      first
        | exact (((Hbw.out.setCell (by simp) _).setCell (by simp) _).setCell (by simp) _)
        | exact ((((ext_trans Hbw.out (ext_drewN _ _)).setCell (by simp) _).setCell (by simp) _).setCell (by simp) _)
    · have d3 : decide ((2147483647 : Int) < (x2 : Int)) = true := decide_eq_true (by omega)
      clear b4
      go_quiet (fail)
      go_wp2_with (first
        | (go_at_call 77; refine (HSum.out _ (ext_trans Hbw.out (ext_drewN _ _))).mono ?_; rintro e w3 ⟨rfl, hB3⟩; obtain ⟨⟨e0, e1, e2⟩, hEB, hMG, hxs⟩ := HF.out w3 (ext_trans (ext_drewN _ _) hB3); obtain ⟨hbw, hbs, z0, z1, z2, v0, v1, v2⟩ := hEB; have mc0 := hMG.c0; have mc1 := hMG.c1; have mc2 := hMG.c2; have Hbw := Lib.hid hbw; clear hMG hbw hB3)
        | (go_at_call 66; refine (HCmp.out _ (by first | exact Hbw.out | exact ext_trans Hbw.out (ext_drewN _ _))).mono ?_; rintro e w4 ⟨rfl, rfl⟩))
      refine bodyPost_ret (v := .tuple #[.agg #[.int .u32 (x0 : Nat), .int .u32 (x1 : Nat), .int .u32 (x2 : Nat)], .int .i64 10]) (by simp [results, Try.results122, go_sem, cell_set_ite, ↓IntWalk.iteOmega, z0, z1, z2, e0, e1, e2]) rfl ⟨rfl, ?_⟩
      first
        | exact (((Hbw.out.setCell (by simp) _).setCell (by simp) _).setCell (by simp) _)
        | exact ((((ext_trans Hbw.out (ext_drewN _ _)).setCell (by simp) _).setCell (by simp) _).setCell (by simp) _)
    · have d3 : decide ((2147483647 : Int) < (x2 : Int)) = false := decide_eq_false (by omega)
      clear b4
      go_quiet (fail)
      go_wp2_with (first
        | (go_at_call 77; refine (HSum.out _ (ext_trans Hbw.out (ext_drewN _ _))).mono ?_; rintro e w3 ⟨rfl, hB3⟩; obtain ⟨⟨e0, e1, e2⟩, hEB, hMG, hxs⟩ := HF.out w3 (ext_trans (ext_drewN _ _) hB3); obtain ⟨hbw, hbs, z0, z1, z2, v0, v1, v2⟩ := hEB; have mc0 := hMG.c0; have mc1 := hMG.c1; have mc2 := hMG.c2; have Hbw := Lib.hid hbw; clear hMG hbw hB3)
        | (go_at_call 66; refine (HCmp.out _ (by first | exact Hbw.out | exact ext_trans Hbw.out (ext_drewN _ _))).mono ?_; rintro e w4 ⟨rfl, rfl⟩))
      refine bodyPost_ret (v := .tuple #[.agg #[.int .u32 (x0 : Nat), .int .u32 (x1 : Nat), .int .u32 (x2 : Nat)], .int .i64 0]) (by simp [results, Try.results122, go_sem, cell_set_ite, ↓IntWalk.iteOmega, z0, z1, z2, e0, e1, e2]) rfl ⟨rfl, ?_⟩
      first
        | exact (((Hbw.out.setCell (by simp) _).setCell (by simp) _).setCell (by simp) _)
        | exact ((((ext_trans Hbw.out (ext_drewN _ _)).setCell (by simp) _).setCell (by simp) _).setCell (by simp) _)
  · have d1 : decide ((0 : Int) < (n : Int)) = true := decide_eq_true (by omega)
    have d1' : decide (0 < n) = true := decide_eq_true (by omega)
    have d2 : ((fr : Int) == (x0 : Int)) = false := by simp; omega
    clear q1 q2 Hleft Herr
    rcases hout with ⟨b1, rfl⟩ | ⟨b1, b2, rfl⟩ | ⟨b1, b2, b3, rfl⟩ | ⟨b1, b2, b3, b4, rfl⟩ | ⟨b1, b2, b3, b4, rfl⟩
    · go_quiet (fail)
      go_wp2_with (first
        | (go_at_call 77; refine (HSum.out _ (ext_trans Hbw.out (ext_drewN _ _))).mono ?_; rintro e w3 ⟨rfl, hB3⟩; obtain ⟨⟨e0, e1, e2⟩, hEB, hMG, hxs⟩ := HF.out w3 (ext_trans (ext_drewN _ _) hB3); obtain ⟨hbw, hbs, z0, z1, z2, v0, v1, v2⟩ := hEB; have mc0 := hMG.c0; have mc1 := hMG.c1; have mc2 := hMG.c2; have Hbw := Lib.hid hbw; clear hMG hbw hB3)
        | (go_at_call 66; refine (HCmp.out _ (by first | exact Hbw.out | exact ext_trans Hbw.out (ext_drewN _ _))).mono ?_; rintro e w4 ⟨rfl, rfl⟩))
      refine bodyPost_ret (v := .tuple #[.agg #[.int .u32 (x0 : Nat), .int .u32 (x1 : Nat), .int .u32 (x2 : Nat)], .int .i64 3]) (by simp [results, Try.results122, go_sem, cell_set_ite, ↓IntWalk.iteOmega, z0, z1, z2, e0, e1, e2]) rfl ⟨rfl, ?_⟩
      first
        | exact (((Hbw.out.setCell (by simp) _).setCell (by simp) _).setCell (by simp) _)
        | exact ((((ext_trans Hbw.out (ext_drewN _ _)).setCell (by simp) _).setCell (by simp) _).setCell (by simp) _)
    · go_quiet (fail)
      go_wp2_with (first
        | (go_at_call 77; refine (HSum.out _ (ext_trans Hbw.out (ext_drewN _ _))).mono ?_; rintro e w3 ⟨rfl, hB3⟩; obtain ⟨⟨e0, e1, e2⟩, hEB, hMG, hxs⟩ := HF.out w3 (ext_trans (ext_drewN _ _) hB3); obtain ⟨hbw, hbs, z0, z1, z2, v0, v1, v2⟩ := hEB; have mc0 := hMG.c0; have mc1 := hMG.c1; have mc2 := hMG.c2; have Hbw := Lib.hid hbw; clear hMG hbw hB3)
        | (go_at_call 66; refine (HCmp.out _ (by first | exact Hbw.out | exact ext_trans Hbw.out (ext_drewN _ _))).mono ?_; rintro e w4 ⟨rfl, rfl⟩))
      refine bodyPost_ret (v := .tuple #[.agg #[.int .u32 (x0 : Nat), .int .u32 (x1 : Nat), .int .u32 (x2 : Nat)], .int .i64 3]) (by simp [results, Try.results122, go_sem, cell_set_ite, ↓IntWalk.iteOmega, z0, z1, z2, e0, e1, e2]) rfl ⟨rfl, ?_⟩
      first
        | exact (((Hbw.out.setCell (by simp) _).setCell (by simp) _).setCell (by simp) _)
        | exact ((((ext_trans Hbw.out (ext_drewN _ _)).setCell (by simp) _).setCell (by simp) _).setCell (by simp) _)
    · go_quiet (fail)
      go_wp2_with (first
        | (go_at_call 77; refine (HSum.out _ (ext_trans Hbw.out (ext_drewN _ _))).mono ?_; rintro e w3 ⟨rfl, hB3⟩; obtain ⟨⟨e0, e1, e2⟩, hEB, hMG, hxs⟩ := HF.out w3 (ext_trans (ext_drewN _ _) hB3); obtain ⟨hbw, hbs, z0, z1, z2, v0, v1, v2⟩ := hEB; have mc0 := hMG.c0; have mc1 := hMG.c1; have mc2 := hMG.c2; have Hbw := Lib.hid hbw; clear hMG hbw hB3)
        | (go_at_call 66; refine (HCmp.out _ (by first | exact Hbw.out | exact ext_trans Hbw.out (ext_drewN _ _))).mono ?_; rintro e w4 ⟨rfl, rfl⟩))
      refine bodyPost_ret (v := .tuple #[.agg #[.int .u32 (x0 : Nat), .int .u32 (x1 : Nat), .int .u32 (x2 : Nat)], .int .i64 13]) (by simp [results, Try.results122, go_sem, cell_set_ite, ↓IntWalk.iteOmega, z0, z1, z2, e0, e1, e2]) rfl ⟨rfl, ?_⟩
      first
        | exact (((Hbw.out.setCell (by simp) _).setCell (by simp) _).setCell (by simp) _)
        | exact ((((ext_trans Hbw.out (ext_drewN _ _)).setCell (by simp) _).setCell (by simp) _).setCell (by simp) _)
    · have d3 : decide ((2147483647 : Int) < (x2 : Int)) = true := decide_eq_true (by omega)
      clear b4
      go_quiet (fail)
      go_wp2_with (first
        | (go_at_call 77; refine (HSum.out _ (ext_trans Hbw.out (ext_drewN _ _))).mono ?_; rintro e w3 ⟨rfl, hB3⟩; obtain ⟨⟨e0, e1, e2⟩, hEB, hMG, hxs⟩ := HF.out w3 (ext_trans (ext_drewN _ _) hB3); obtain ⟨hbw, hbs, z0, z1, z2, v0, v1, v2⟩ := hEB; have mc0 := hMG.c0; have mc1 := hMG.c1; have mc2 := hMG.c2; have Hbw := Lib.hid hbw; clear hMG hbw hB3)
        | (go_at_call 66; refine (HCmp.out _ (by first | exact Hbw.out | exact ext_trans Hbw.out (ext_drewN _ _))).mono ?_; rintro e w4 ⟨rfl, rfl⟩))
      refine bodyPost_ret (v := .tuple #[.agg #[.int .u32 (x0 : Nat), .int .u32 (x1 : Nat), .int .u32 (x2 : Nat)], .int .i64 10]) (by simp [results, Try.results122, go_sem, cell_set_ite, ↓IntWalk.iteOmega, z0, z1, z2, e0, e1, e2]) rfl ⟨rfl, ?_⟩
      first
        | exact (((Hbw.out.setCell (by simp) _).setCell (by simp) _).setCell (by simp) _)
        | exact ((((ext_trans Hbw.out (ext_drewN _ _)).setCell (by simp) _).setCell (by simp) _).setCell (by simp) _)
    · have d3 : decide ((2147483647 : Int) < (x2 : Int)) = false := decide_eq_false (by omega)
      clear b4
      go_quiet (fail)
      go_wp2_with (first
        | (go_at_call 77; refine (HSum.out _ (ext_trans Hbw.out (ext_drewN _ _))).mono ?_; rintro e w3 ⟨rfl, hB3⟩; obtain ⟨⟨e0, e1, e2⟩, hEB, hMG, hxs⟩ := HF.out w3 (ext_trans (ext_drewN _ _) hB3); obtain ⟨hbw, hbs, z0, z1, z2, v0, v1, v2⟩ := hEB; have mc0 := hMG.c0; have mc1 := hMG.c1; have mc2 := hMG.c2; have Hbw := Lib.hid hbw; clear hMG hbw hB3)
        | (go_at_call 66; refine (HCmp.out _ (by first | exact Hbw.out | exact ext_trans Hbw.out (ext_drewN _ _))).mono ?_; rintro e w4 ⟨rfl, rfl⟩))
      refine bodyPost_ret (v := .tuple #[.agg #[.int .u32 (x0 : Nat), .int .u32 (x1 : Nat), .int .u32 (x2 : Nat)], .int .i64 0]) (by simp [results, Try.results122, go_sem, cell_set_ite, ↓IntWalk.iteOmega, z0, z1, z2, e0, e1, e2]) rfl ⟨rfl, ?_⟩
      first
        | exact (((Hbw.out.setCell (by simp) _).setCell (by simp) _).setCell (by simp) _)
        | exact ((((ext_trans Hbw.out (ext_drewN _ _)).setCell (by simp) _).setCell (by simp) _).setCell (by simp) _)
  · have d1 : decide ((0 : Int) < (n : Int)) = true := decide_eq_true (by omega)
    have d1' : decide (0 < n) = true := decide_eq_true (by omega)
    have d2 : ((fr : Int) == (x0 : Int)) = true := by simp; omega
    clear q1 q2 Hleft Herr
    rcases hout with ⟨b1, rfl⟩ | ⟨b1, b2, rfl⟩ | ⟨b1, b2, b3, rfl⟩ | ⟨b1, b2, b3, b4, rfl⟩ | ⟨b1, b2, b3, b4, rfl⟩
    · go_quiet (fail)
      go_wp2_with (first
        | (go_at_call 77; refine (HSum.out _ (ext_trans Hbw.out (ext_drewN _ _))).mono ?_; rintro e w3 ⟨rfl, hB3⟩; obtain ⟨⟨e0, e1, e2⟩, hEB, hMG, hxs⟩ := HF.out w3 (ext_trans (ext_drewN _ _) hB3); obtain ⟨hbw, hbs, z0, z1, z2, v0, v1, v2⟩ := hEB; have mc0 := hMG.c0; have mc1 := hMG.c1; have mc2 := hMG.c2; have Hbw := Lib.hid hbw; clear hMG hbw hB3)
        | (go_at_call 66; refine (HCmp.out _ (by first | exact Hbw.out | exact ext_trans Hbw.out (ext_drewN _ _))).mono ?_; rintro e w4 ⟨rfl, rfl⟩))
      refine bodyPost_ret (v := .tuple #[.agg #[.int .u32 (x0 : Nat), .int .u32 (x1 : Nat), .int .u32 (x2 : Nat)], .int .i64 3]) (by simp [results, Try.results122, go_sem, cell_set_ite, ↓IntWalk.iteOmega, z0, z1, z2, e0, e1, e2]) rfl ⟨rfl, ?_⟩
      first
        | exact (((Hbw.out.setCell (by simp) _).setCell (by simp) _).setCell (by simp) _)
        | exact ((((ext_trans Hbw.out (ext_drewN _ _)).setCell (by simp) _).setCell (by simp) _).setCell (by simp) _)
    · go_quiet (fail)
      go_wp2_with (first
        | (go_at_call 77; refine (HSum.out _ (ext_trans Hbw.out (ext_drewN _ _))).mono ?_; rintro e w3 ⟨rfl, hB3⟩; obtain ⟨⟨e0, e1, e2⟩, hEB, hMG, hxs⟩ := HF.out w3 (ext_trans (ext_drewN _ _) hB3); obtain ⟨hbw, hbs, z0, z1, z2, v0, v1, v2⟩ := hEB; have mc0 := hMG.c0; have mc1 := hMG.c1; have mc2 := hMG.c2; have Hbw := Lib.hid hbw; clear hMG hbw hB3)
        | (go_at_call 66; refine (HCmp.out _ (by first | exact Hbw.out | exact ext_trans Hbw.out (ext_drewN _ _))).mono ?_; rintro e w4 ⟨rfl, rfl⟩))
      refine bodyPost_ret (v := .tuple #[.agg #[.int .u32 (x0 : Nat), .int .u32 (x1 : Nat), .int .u32 (x2 : Nat)], .int .i64 3]) (by simp [results, Try.results122, go_sem, cell_set_ite, ↓IntWalk.iteOmega, z0, z1, z2, e0, e1, e2]) rfl ⟨rfl, ?_⟩
      first
        | exact (((Hbw.out.setCell (by simp) _).setCell (by simp) _).setCell (by simp) _)
        | exact ((((ext_trans Hbw.out (ext_drewN _ _)).setCell (by simp) _).setCell (by simp) _).setCell (by simp) _)
    · go_quiet (fail)
      go_wp2_with (first
        | (go_at_call 77; refine (HSum.out _ (ext_trans Hbw.out (ext_drewN _ _))).mono ?_; rintro e w3 ⟨rfl, hB3⟩; obtain ⟨⟨e0, e1, e2⟩, hEB, hMG, hxs⟩ := HF.out w3 (ext_trans (ext_drewN _ _) hB3); obtain ⟨hbw, hbs, z0, z1, z2, v0, v1, v2⟩ := hEB; have mc0 := hMG.c0; have mc1 := hMG.c1; have mc2 := hMG.c2; have Hbw := Lib.hid hbw; clear hMG hbw hB3)
        | (go_at_call 66; refine (HCmp.out _ (by first | exact Hbw.out | exact ext_trans Hbw.out (ext_drewN _ _))).mono ?_; rintro e w4 ⟨rfl, rfl⟩))
      refine bodyPost_ret (v := .tuple #[.agg #[.int .u32 (x0 : Nat), .int .u32 (x1 : Nat), .int .u32 (x2 : Nat)], .int .i64 13]) (by simp [results, Try.results122, go_sem, cell_set_ite, ↓IntWalk.iteOmega, z0, z1, z2, e0, e1, e2]) rfl ⟨rfl, ?_⟩
      first
        | exact (((Hbw.out.setCell (by simp) _).setCell (by simp) _).setCell (by simp) _)
        | exact ((((ext_trans Hbw.out (ext_drewN _ _)).setCell (by simp) _).setCell (by simp) _).setCell (by simp) _)
    · have d3 : decide ((2147483647 : Int) - (S : Int) < (x2 : Int)) = true := decide_eq_true (by omega)
      clear b4
      go_quiet (fail)
      go_wp2_with (first
        | (go_at_call 77; refine (HSum.out _ (ext_trans Hbw.out (ext_drewN _ _))).mono ?_; rintro e w3 ⟨rfl, hB3⟩; obtain ⟨⟨e0, e1, e2⟩, hEB, hMG, hxs⟩ := HF.out w3 (ext_trans (ext_drewN _ _) hB3); obtain ⟨hbw, hbs, z0, z1, z2, v0, v1, v2⟩ := hEB; have mc0 := hMG.c0; have mc1 := hMG.c1; have mc2 := hMG.c2; have Hbw := Lib.hid hbw; clear hMG hbw hB3)
        | (go_at_call 66; refine (HCmp.out _ (by first | exact Hbw.out | exact ext_trans Hbw.out (ext_drewN _ _))).mono ?_; rintro e w4 ⟨rfl, rfl⟩))
      refine bodyPost_ret (v := .tuple #[.agg #[.int .u32 (x0 : Nat), .int .u32 (x1 : Nat), .int .u32 (x2 : Nat)], .int .i64 10]) (by simp [results, Try.results122, go_sem, cell_set_ite, ↓IntWalk.iteOmega, z0, z1, z2, e0, e1, e2]) rfl ⟨rfl, ?_⟩
      first
        | exact (((Hbw.out.setCell (by simp) _).setCell (by simp) _).setCell (by simp) _)
        | exact ((((ext_trans Hbw.out (ext_drewN _ _)).setCell (by simp) _).setCell (by simp) _).setCell (by simp) _)
    · have d3 : decide ((2147483647 : Int) - (S : Int) < (x2 : Int)) = false := decide_eq_false (by omega)
      clear b4
      go_quiet (fail)
      go_wp2_with (first
        | (go_at_call 77; refine (HSum.out _ (ext_trans Hbw.out (ext_drewN _ _))).mono ?_; rintro e w3 ⟨rfl, hB3⟩; obtain ⟨⟨e0, e1, e2⟩, hEB, hMG, hxs⟩ := HF.out w3 (ext_trans (ext_drewN _ _) hB3); obtain ⟨hbw, hbs, z0, z1, z2, v0, v1, v2⟩ := hEB; have mc0 := hMG.c0; have mc1 := hMG.c1; have mc2 := hMG.c2; have Hbw := Lib.hid hbw; clear hMG hbw hB3)
        | (go_at_call 66; refine (HCmp.out _ (by first | exact Hbw.out | exact ext_trans Hbw.out (ext_drewN _ _))).mono ?_; rintro e w4 ⟨rfl, rfl⟩))
      refine bodyPost_ret (v := .tuple #[.agg #[.int .u32 (x0 : Nat), .int .u32 (x1 : Nat), .int .u32 (x2 : Nat)], .int .i64 0]) (by simp [results, Try.results122, go_sem, cell_set_ite, ↓IntWalk.iteOmega, z0, z1, z2, e0, e1, e2]) rfl ⟨rfl, ?_⟩
      first
        | exact (((Hbw.out.setCell (by simp) _).setCell (by simp) _).setCell (by simp) _)
        | exact ((((ext_trans Hbw.out (ext_drewN _ _)).setCell (by simp) _).setCell (by simp) _).setCell (by simp) _)
end Go.Proofs.Ytlgnpogmgpgdaaa

namespace Go.Proofs.Ytlgnpogmgpgdaaa
set_option linter.unusedSimpArgs false
set_option linter.unusedVariables false
set_option maxRecDepth 100000
open Go.RowKit

def addArc (l : List ArcD) (x : EdgeD) : List ArcD := match l.getLast? with
  | some a => if a.1 = x.2.1 then l.dropLast ++ [(a.1, a.2 + x.2.2)] else l ++ [(x.2.1, x.2.2)]
  | none => [(x.2.1, x.2.2)]
def mtakeM (row : RowD) (x : EdgeD) : RowD := if sameRow row x then (row.1, addArc row.2 x) else (x.1, [(x.2.1, x.2.2)])

theorem alloc_drew (W : World) (o : Obj) : (W.alloc o).drew = W.drew.alloc o := rfl
theorem take_done {m : Nat} {row : RowD} {last : List UInt8} {ao : Option Addr} {cap : Nat} {g : Option Nat} {lo : Option Addr} {lc : Nat} {W : World} {v1 : Value} (c0 : W.cell? ⟨m, 0, none⟩ = some (.int .u32 (row.1 : Nat))) (c1 : W.cell? ⟨m, 1, none⟩ = some v1) (c2 : W.cell? ⟨m, 2, none⟩ = some (.slice lo last.length lc))
    (f0 : W.frozen? ⟨m, 0, none⟩ = false) (f1 : W.frozen? ⟨m, 1, none⟩ = false) (f2 : W.frozen? ⟨m, 2, none⟩ = false) (ho : OwnS arcRep (fun _ => False) W ao cap g 42 row.2) (hr : Rd W lo last.length (byteVals last)) (hm : m < W.heap.size) (hg : g ≠ some m)
    (hl : ∀ b off, lo = some ⟨b, off, none⟩ → 0 < last.length → b ≠ m ∧ g ≠ some b) : MG m row last ao cap g lo lc (W.setCell ⟨m, 1, none⟩ (.slice ao row.2.length cap)) := by
  have hset : Only (fun k => k = m) W (W.setCell ⟨m, 1, none⟩ (.slice ao row.2.length cap)) := (Only.refl (fun k => k = m) W).setCell (p := ⟨m, 1, none⟩) (fun _ => rfl) _
  refine ⟨by simp [cell_set_ite, c0], by simp [cell_set_ite, c1], by simp [cell_set_ite, c2], (World.frozen?_setCell ..).trans f0, (World.frozen?_setCell ..).trans f1, (World.frozen?_setCell ..).trans f2, ho.only hset (fun b hb _ e => ?_), ?_, by simpa using hm, hg, hl⟩
  · rcases hb with h | h
    · exact h
    · exact hg (e ▸ h)
  · rcases Nat.eq_zero_or_pos last.length with h0 | h0
    · exact ⟨hr.1, .inl h0⟩
    · obtain ⟨b, o, e, hb, hc⟩ := hr.pos h0
      refine ⟨hr.1, .inr ⟨b, o, e, by simpa using hb, fun j hj => ?_⟩⟩
      have hne := (hl b o e h0).1
      exact (hset.cell hb hne (o + j)).trans (hc j hj)
set_option maxRecDepth 100000 in
set_option maxHeartbeats 3200000 in
theorem take_new (m : Nat) (row : RowD) (last : List UInt8) (ao : Option Addr) (cap : Nat) (lo : Option Addr) (lc : Nat) (x : EdgeD) (w : World) (h : MH m row last ao cap lo lc w) (hx : okE x) (hns : ¬ sameRow row x) :
    Calls Try.prog 124 #[.pointer (some ⟨m, 0, none⟩), edgeV x] w fun e w' => e = .returned (.tuple #[]) ∧ ∃ ao' cap' g', MG m (mtakeM row x) last ao' cap' g' lo lc w' ∧ (∀ k, g' = some k → w.heap.size ≤ k) ∧ Only (fun k => k = m) w w' := by
  have hE := arcElem
  have hFull := fun (W : World) (hB : Below w.heap.size w W) => full_any m row last ao cap lo lc x W (h.ext hB)
  have hfb : (fullB row x || decide (row.2.length = 0)) = true := by
    unfold fullB
    unfold sameRow at hns
    by_cases h1 : 0 < row.2.length
    · have h2 : row.1 ≠ x.1 := fun e => hns ⟨h1, e⟩
      simp [h1, h2]
    · have : row.2.length = 0 := by omega
      simp [this]
  have htk : mtakeM row x = (x.1, [(x.2.1, x.2.2)]) := if_neg hns
  rw [htk]
  obtain ⟨x0, x1, x2⟩ := x
  obtain ⟨fr, arcs⟩ := row
  simp only [edgeV] at hFull ⊢
  simp only at hfb
  generalize fullB (fr, arcs) (x0, x1, x2) = fb at hFull hfb
  have Hm := Lib.hid h
  have HFull := Lib.hid hFull
  have hmlt := h.lt
  have mc0 := h.c0
  have mc1 := h.c1
  have mf0 := h.f0
  have mf1 := h.f1
  have mc2 := h.c2
  have mf2 := h.f2
  have Hx := Lib.hid hx
  simp only at mc0 mc1
  generalize hn : arcs.length = n at mc1 hfb
  have hmw : ¬ m = w.heap.size := by omega
  have hmw2 : ¬ w.heap.size = m := by omega
  clear hFull h htk hns hn
  cases fb
  · skip
    have hn0 : n = 0 := by simpa using hfb
    have hd : ((n : Int) == 0) = true := by simp [hn0]
    have hd' : decide (n = 0) = true := by simp [hn0]
    clear hfb hn0
    go_enter Try.func124, Try.ntmps124
    go_wp2_with (go_at_call 123; refine (HFull.out _ (ext_alloc w _)).mono ?_; rintro e w2 ⟨rfl, hB2⟩; have e0 := ((bcell hB2).1 w.heap.size 0 (by simp)).trans (show _ = some (Value.int .u32 (x0 : Nat)) by simp [go_sem]); have e1 := ((bcell hB2).1 w.heap.size 1 (by simp)).trans (show _ = some (Value.int .u32 (x1 : Nat)) by simp [go_sem]); have e2 := ((bcell hB2).1 w.heap.size 2 (by simp)).trans (show _ = some (Value.int .u32 (x2 : Nat)) by simp [go_sem]); have mc0 := ((bcell ((ext_alloc w _).trans (hB2.mono (by simp)))).1 m 0 hmlt).trans mc0; have mc1 := ((bcell ((ext_alloc w _).trans (hB2.mono (by simp)))).1 m 1 hmlt).trans mc1; have mf0 := ((bcell ((ext_alloc w _).trans (hB2.mono (by simp)))).2 m 0 hmlt).trans mf0; have mf1 := ((bcell ((ext_alloc w _).trans (hB2.mono (by simp)))).2 m 1 hmlt).trans mf1; have mc2 := ((bcell ((ext_alloc w _).trans (hB2.mono (by simp)))).1 m 2 hmlt).trans mc2; have mf2 := ((bcell ((ext_alloc w _).trans (hB2.mono (by simp)))).2 m 2 hmlt).trans mf2; have hz2 := hB2.size; simp at hz2; have HB2 := Lib.hid hB2; clear hB2)
    go_quiet (fail)
    go_wp2_with fail
    obtain ⟨wq, hwq⟩ : ∃ x, ((w2.setCell ⟨m, 0, none⟩ (.int .u32 (x0 : Nat))).setCell ⟨m, 1, none⟩ (.slice none 0 0)).drewN nq = x := ⟨_, rfl⟩
    have hwB : Only (fun k => k = m) w wq := by
      rw [← hwq]
      exact (((Only.of_below (fp := fun k => k = m) ((ext_alloc w _).trans (HB2.out.mono (by simp)))).setCell (p := ⟨m, 0, none⟩) (fun _ => rfl) _).setCell (p := ⟨m, 1, none⟩) (fun _ => rfl) _).drewN nq
    have mw0 : wq.cell? ⟨m, 0, none⟩ = some (.int .u32 (x0 : Nat)) := by rw [← hwq]; simp [go_sem, cell_set_ite, mc0]
    have mw1 : wq.cell? ⟨m, 1, none⟩ = some (.slice none 0 0) := by rw [← hwq]; simp [go_sem, cell_set_ite, mc1]
    have mf1 : wq.frozen? ⟨m, 1, none⟩ = false := by rw [← hwq]; simp [go_sem, mf1]
    have e1 : wq.cell? ⟨w.heap.size, 1, none⟩ = some (.int .u32 (x1 : Nat)) := by rw [← hwq]; simp [go_sem, cell_set_ite, e1, hmw, hmw2]
    have e2 : wq.cell? ⟨w.heap.size, 2, none⟩ = some (.int .u32 (x2 : Nat)) := by rw [← hwq]; simp [go_sem, cell_set_ite, e2, hmw, hmw2]
    have hzq : w.heap.size + 1 ≤ wq.heap.size := by rw [← hwq]; simpa using hz2
    have HO := Lib.hid (Own.nil wq 42 2)
    have HNe : Hid ((none : Option Nat) ≠ some m) := Lib.hid (by simp)
    have mw2 : wq.cell? ⟨m, 2, none⟩ = some (.slice lo last.length lc) := by rw [← hwq]; simp [go_sem, cell_set_ite, mc2]
    have mf0q : wq.frozen? ⟨m, 0, none⟩ = false := by rw [← hwq]; simp [go_sem, mf0]
    have mf2q : wq.frozen? ⟨m, 2, none⟩ = false := by rw [← hwq]; simp [go_sem, mf2]
    have Hmw2 := Lib.hid mw2
    have Hmf0 := Lib.hid mf0q
    have Hmf2 := Lib.hid mf2q
    have HwB := Lib.hid hwB
    have Hmw0 := Lib.hid mw0
    have hmq : ¬ m = wq.heap.size := by omega
    have hmq2 : ¬ wq.heap.size = m := by omega
    have hsq : ¬ w.heap.size = wq.heap.size := by omega
    have hsq2 : ¬ wq.heap.size = w.heap.size := by omega
    rw [hwq]
    clear hwq hwB mc0 mc1 mc2 mf0 mf2 e0 mw0 mw2 mf0q mf2q
    refine (wpIn_wide (n := 0)).1 ?_
    refine wpIn_region_any (by kernel_rfl) ?_
    change wpAnyIn _ _ _ _ _ _ _ _ _ (World.drew _)
    refine wpAnyIn_take (i := 0) (v := ?_) rfl rfl (by kernel_rfl) (by kernel_rfl) (by kernel_rfl) (fun _ _ _ h => h) ⟨Or.inl ⟨by rfl, ?_⟩, fun _ => rfl⟩ ?_
    rotate_left
    · (intro w; go_simp; try (with_reducible rfl))
    refine wpAnyIn_take (i := 1) (v := ?_) rfl rfl (by kernel_rfl) (by kernel_rfl) (by kernel_rfl) (fun _ _ _ h => h) ⟨Or.inl ⟨by rfl, ?_⟩, fun _ => rfl⟩ ?_
    rotate_left
    · (intro w; go_simp; try (with_reducible rfl))
    refine wpAnyIn_take (i := 2) (v := ?_) rfl rfl (by kernel_rfl) (by kernel_rfl) (by kernel_rfl) (fun _ _ _ h => h) ⟨Or.inl ⟨by rfl, ?_⟩, fun _ => rfl⟩ ?_
    rotate_left
    · (intro w; go_simp; try (with_reducible rfl))
    refine wpAnyIn_take (i := 3) (v := ?_) rfl rfl (by kernel_rfl) (by kernel_rfl) (by kernel_rfl) (fun _ _ _ h => h) ⟨Or.inl ⟨by rfl, ?_⟩, fun _ => rfl⟩ ?_
    rotate_left
    · (intro w; go_simp; try (with_reducible rfl))
    refine wpAnyIn_take (i := 4) (v := ?_) rfl rfl (by kernel_rfl) (by kernel_rfl) (by kernel_rfl) (fun _ _ _ h => h) ⟨Or.inl ⟨by rfl, ?_⟩, fun _ => rfl⟩ ?_
    rotate_left
    · (intro w; go_simp; try (with_reducible rfl))
    refine wpAnyIn_take (i := 6) (v := ?_) rfl rfl (by kernel_rfl) (by kernel_rfl) (by kernel_rfl) (fun _ _ _ h => h) ⟨Or.inl ⟨by rfl, ?_⟩, fun _ => rfl⟩ ?_
    rotate_left
    · (intro w; go_simp; try (with_reducible rfl))
    refine wpAnyIn_take (i := 8) (v := ?_) rfl rfl (by kernel_rfl) (by kernel_rfl) (by kernel_rfl) (fun _ _ _ h => h) ⟨Or.inl ⟨by rfl, ?_⟩, fun _ => rfl⟩ ?_
    rotate_left
    · (intro w; go_simp; try (with_reducible rfl))
    refine wpAnyIn_ready (rs := [5, 7, 9]) (by kernel_rfl) (by simp) ?_
    refine AllReadyIn.cons rfl (fun K hK => ?_) ?_
    · go_simp
      refine hK _ _ ?_
      clear hK K
      refine wpAnyIn_ready (rs := [7, 9]) (by kernel_rfl) (by simp) ?_
      refine AllReadyIn.cons rfl (fun K hK => ?_) ?_
      · go_simp
        refine hK _ _ ?_
        clear hK K
        refine wpAnyIn_ready (rs := [9]) (by kernel_rfl) (by simp) ?_
        refine AllReadyIn.cons rfl (fun K hK => ?_) AllReadyIn.nil
        go_simp
        refine hK _ _ ?_
        clear hK K
        refine wpAnyIn_take (i := 10) (v := ?_) rfl rfl (by kernel_rfl) (by kernel_rfl) (by kernel_rfl) (fun _ _ _ h => h) ⟨Or.inl ⟨by rfl, ?_⟩, fun _ => rfl⟩ ?_
        rotate_left
        · (intro w; go_simp; try (with_reducible rfl))
        refine wpAnyIn_ready (rs := [11]) (by kernel_rfl) (by simp) ?_
        refine AllReadyIn.cons rfl (fun K hK => ?_) AllReadyIn.nil
        go_simp
        refine hK _ _ ?_
        clear hK K
        refine wpAnyIn_ready (rs := [12]) (by kernel_rfl) (by simp) ?_
        refine AllReadyIn.cons rfl (fun K hK => ?_) AllReadyIn.nil
        try rw [alloc_drew]
        refine step_appIn (fun _ => trivial) rfl (.tmp 66) (.tmp 72) 31 31 rfl hE ((HO.out.ext (ext_drew _)).alloc _) rfl rfl (srcManyE Try.underlying31 _ _ _ _ 2 _ (by simp) rfl (by simp [Value.oneCell'])) (by first | (simp [maxLen]; done) | (simp [maxLen]; omega)) (by omega) ?_
        intro ao5 cap5 g5 W5 ho5 hg5 hon5
        refine hK _ _ ?_
        clear hK K
        have u1 := hon5.cell (b := m) (by simp; omega) HNe.out 1
        have u2 := hon5.frozen (b := m) (by simp; omega) HNe.out 1
        simp [go_sem, ↓IntWalk.iteOmega, mw1, mf1] at u1 u2
        refine wpAnyIn_take (i := 13) (v := ?_) rfl rfl (by kernel_rfl) (by kernel_rfl) (by kernel_rfl) (fun _ _ _ h => h) ⟨Or.inl ⟨by rfl, ?_⟩, fun _ => rfl⟩ ?_
        rotate_left
        · (intro w; go_simp; try (with_reducible rfl))
        refine wpAnyIn_take (i := 14) (v := ?_) rfl rfl (by kernel_rfl) (by kernel_rfl) (by kernel_rfl) (fun _ _ _ h => h) ⟨Or.inl ⟨by rfl, ?_⟩, fun _ => rfl⟩ ?_
        rotate_left
        · (intro w; go_simp; try (with_reducible rfl))
        refine wpAnyIn_take (i := 15) (v := ?_) rfl rfl (by kernel_rfl) (by kernel_rfl) (by kernel_rfl) (fun _ _ _ h => h) ⟨Or.inl ⟨by rfl, ?_⟩, fun _ => rfl⟩ ?_
        rotate_left
        · (intro w; go_simp; try (with_reducible rfl))
        refine wpAnyIn_ready (rs := [16]) (by kernel_rfl) (by simp) ?_
        refine AllReadyIn.cons rfl (fun K hK => ?_) AllReadyIn.nil
        go_simp
        refine hK _ _ ?_
        clear hK K
        refine wpAnyIn_done (by kernel_rfl) ?_ _
        go_end0
        have y0 := hon5.cell (b := m) (by simp; omega) HNe.out 0
        have y2 := hon5.cell (b := m) (by simp; omega) HNe.out 2
        have z0 := hon5.frozen (b := m) (by simp; omega) HNe.out 0
        have z2 := hon5.frozen (b := m) (by simp; omega) HNe.out 2
        simp [go_sem, ↓IntWalk.iteOmega, Hmw0.out, Hmw2.out, Hmf0.out, Hmf2.out] at y0 y2 z0 z2
        have hOn : Only (fun k => k = m) w W5 := (HwB.out.ext ((ext_drew wq).alloc (by simp) _)).trans hon5 (fun i _ e => by cases e)
        have hs5 := hOn.size
        have hg5' : ∀ k, g5 = some k → wq.heap.size ≤ k := fun k h => by
          rcases hg5 with e | e <;> rw [e] at h
          · cases h
          · cases h; simp
        have hMG := Hm.out
        have hS : OwnS arcRep (fun _ => False) W5 ao5 cap5 g5 42 [(x1, x2)] := ⟨[arcCs (x1, x2)], ho5, .cons (arcRep_ok ⟨Hx.out.2.1, Hx.out.2.2⟩) .nil⟩
        refine ⟨rfl, ao5, cap5, g5, take_done (row := (x0, [(x1, x2)])) y0 u1 y2 z0 u2 z2 hS ?_ (by omega) (fun e => by have := hg5' m e; omega) ?_, fun k h => by have := hg5' k h; omega, hOn.setCell (fun _ => rfl) _⟩
        · exact hMG.rd.only hOn (fun h0 k off e => hMG.lne k off e h0)
        · intro b o e h0
          refine ⟨hMG.lne b o e h0, fun e2 => ?_⟩
          have := hg5' b e2
          obtain ⟨b', o', e3, hb', _⟩ := hMG.rd.pos h0
          rw [e3] at e
          cases e
          omega
      · refine AllReadyIn.cons rfl (fun K hK => ?_) AllReadyIn.nil
        go_simp
        refine hK _ _ ?_
        clear hK K
        refine wpAnyIn_ready (rs := [7]) (by kernel_rfl) (by simp) ?_
        refine AllReadyIn.cons rfl (fun K hK => ?_) AllReadyIn.nil
        go_simp
        refine hK _ _ ?_
        clear hK K
        refine wpAnyIn_take (i := 10) (v := ?_) rfl rfl (by kernel_rfl) (by kernel_rfl) (by kernel_rfl) (fun _ _ _ h => h) ⟨Or.inl ⟨by rfl, ?_⟩, fun _ => rfl⟩ ?_
        rotate_left
        · (intro w; go_simp; try (with_reducible rfl))
        refine wpAnyIn_ready (rs := [11]) (by kernel_rfl) (by simp) ?_
        refine AllReadyIn.cons rfl (fun K hK => ?_) AllReadyIn.nil
        go_simp
        refine hK _ _ ?_
        clear hK K
        refine wpAnyIn_ready (rs := [12]) (by kernel_rfl) (by simp) ?_
        refine AllReadyIn.cons rfl (fun K hK => ?_) AllReadyIn.nil
        try rw [alloc_drew]
        refine step_appIn (fun _ => trivial) rfl (.tmp 66) (.tmp 72) 31 31 rfl hE ((HO.out.ext (ext_drew _)).alloc _) rfl rfl (srcManyE Try.underlying31 _ _ _ _ 2 _ (by simp) rfl (by simp [Value.oneCell'])) (by first | (simp [maxLen]; done) | (simp [maxLen]; omega)) (by omega) ?_
        intro ao5 cap5 g5 W5 ho5 hg5 hon5
        refine hK _ _ ?_
        clear hK K
        have u1 := hon5.cell (b := m) (by simp; omega) HNe.out 1
        have u2 := hon5.frozen (b := m) (by simp; omega) HNe.out 1
        simp [go_sem, ↓IntWalk.iteOmega, mw1, mf1] at u1 u2
        refine wpAnyIn_take (i := 13) (v := ?_) rfl rfl (by kernel_rfl) (by kernel_rfl) (by kernel_rfl) (fun _ _ _ h => h) ⟨Or.inl ⟨by rfl, ?_⟩, fun _ => rfl⟩ ?_
        rotate_left
        · (intro w; go_simp; try (with_reducible rfl))
        refine wpAnyIn_take (i := 14) (v := ?_) rfl rfl (by kernel_rfl) (by kernel_rfl) (by kernel_rfl) (fun _ _ _ h => h) ⟨Or.inl ⟨by rfl, ?_⟩, fun _ => rfl⟩ ?_
        rotate_left
        · (intro w; go_simp; try (with_reducible rfl))
        refine wpAnyIn_take (i := 15) (v := ?_) rfl rfl (by kernel_rfl) (by kernel_rfl) (by kernel_rfl) (fun _ _ _ h => h) ⟨Or.inl ⟨by rfl, ?_⟩, fun _ => rfl⟩ ?_
        rotate_left
        · (intro w; go_simp; try (with_reducible rfl))
        refine wpAnyIn_ready (rs := [16]) (by kernel_rfl) (by simp) ?_
        refine AllReadyIn.cons rfl (fun K hK => ?_) AllReadyIn.nil
        go_simp
        refine hK _ _ ?_
        clear hK K
        refine wpAnyIn_done (by kernel_rfl) ?_ _
        go_end0
        have y0 := hon5.cell (b := m) (by simp; omega) HNe.out 0
        have y2 := hon5.cell (b := m) (by simp; omega) HNe.out 2
        have z0 := hon5.frozen (b := m) (by simp; omega) HNe.out 0
        have z2 := hon5.frozen (b := m) (by simp; omega) HNe.out 2
        simp [go_sem, ↓IntWalk.iteOmega, Hmw0.out, Hmw2.out, Hmf0.out, Hmf2.out] at y0 y2 z0 z2
        have hOn : Only (fun k => k = m) w W5 := (HwB.out.ext ((ext_drew wq).alloc (by simp) _)).trans hon5 (fun i _ e => by cases e)
        have hs5 := hOn.size
        have hg5' : ∀ k, g5 = some k → wq.heap.size ≤ k := fun k h => by
          rcases hg5 with e | e <;> rw [e] at h
          · cases h
          · cases h; simp
        have hMG := Hm.out
        have hS : OwnS arcRep (fun _ => False) W5 ao5 cap5 g5 42 [(x1, x2)] := ⟨[arcCs (x1, x2)], ho5, .cons (arcRep_ok ⟨Hx.out.2.1, Hx.out.2.2⟩) .nil⟩
        refine ⟨rfl, ao5, cap5, g5, take_done (row := (x0, [(x1, x2)])) y0 u1 y2 z0 u2 z2 hS ?_ (by omega) (fun e => by have := hg5' m e; omega) ?_, fun k h => by have := hg5' k h; omega, hOn.setCell (fun _ => rfl) _⟩
        · exact hMG.rd.only hOn (fun h0 k off e => hMG.lne k off e h0)
        · intro b o e h0
          refine ⟨hMG.lne b o e h0, fun e2 => ?_⟩
          have := hg5' b e2
          obtain ⟨b', o', e3, hb', _⟩ := hMG.rd.pos h0
          rw [e3] at e
          cases e
          omega
    · refine AllReadyIn.cons rfl (fun K hK => ?_) ?_
      · go_simp
        refine hK _ _ ?_
        clear hK K
        refine wpAnyIn_ready (rs := [5, 9]) (by kernel_rfl) (by simp) ?_
        refine AllReadyIn.cons rfl (fun K hK => ?_) ?_
        · go_simp
          refine hK _ _ ?_
          clear hK K
          refine wpAnyIn_ready (rs := [9]) (by kernel_rfl) (by simp) ?_
          refine AllReadyIn.cons rfl (fun K hK => ?_) AllReadyIn.nil
          go_simp
          refine hK _ _ ?_
          clear hK K
          refine wpAnyIn_take (i := 10) (v := ?_) rfl rfl (by kernel_rfl) (by kernel_rfl) (by kernel_rfl) (fun _ _ _ h => h) ⟨Or.inl ⟨by rfl, ?_⟩, fun _ => rfl⟩ ?_
          rotate_left
          · (intro w; go_simp; try (with_reducible rfl))
          refine wpAnyIn_ready (rs := [11]) (by kernel_rfl) (by simp) ?_
          refine AllReadyIn.cons rfl (fun K hK => ?_) AllReadyIn.nil
          go_simp
          refine hK _ _ ?_
          clear hK K
          refine wpAnyIn_ready (rs := [12]) (by kernel_rfl) (by simp) ?_
          refine AllReadyIn.cons rfl (fun K hK => ?_) AllReadyIn.nil
          try rw [alloc_drew]
          refine step_appIn (fun _ => trivial) rfl (.tmp 66) (.tmp 72) 31 31 rfl hE ((HO.out.ext (ext_drew _)).alloc _) rfl rfl (srcManyE Try.underlying31 _ _ _ _ 2 _ (by simp) rfl (by simp [Value.oneCell'])) (by first | (simp [maxLen]; done) | (simp [maxLen]; omega)) (by omega) ?_
          intro ao5 cap5 g5 W5 ho5 hg5 hon5
          refine hK _ _ ?_
          clear hK K
          have u1 := hon5.cell (b := m) (by simp; omega) HNe.out 1
          have u2 := hon5.frozen (b := m) (by simp; omega) HNe.out 1
          simp [go_sem, ↓IntWalk.iteOmega, mw1, mf1] at u1 u2
          refine wpAnyIn_take (i := 13) (v := ?_) rfl rfl (by kernel_rfl) (by kernel_rfl) (by kernel_rfl) (fun _ _ _ h => h) ⟨Or.inl ⟨by rfl, ?_⟩, fun _ => rfl⟩ ?_
          rotate_left
          · (intro w; go_simp; try (with_reducible rfl))
          refine wpAnyIn_take (i := 14) (v := ?_) rfl rfl (by kernel_rfl) (by kernel_rfl) (by kernel_rfl) (fun _ _ _ h => h) ⟨Or.inl ⟨by rfl, ?_⟩, fun _ => rfl⟩ ?_
          rotate_left
          · (intro w; go_simp; try (with_reducible rfl))
          refine wpAnyIn_take (i := 15) (v := ?_) rfl rfl (by kernel_rfl) (by kernel_rfl) (by kernel_rfl) (fun _ _ _ h => h) ⟨Or.inl ⟨by rfl, ?_⟩, fun _ => rfl⟩ ?_
          rotate_left
          · (intro w; go_simp; try (with_reducible rfl))
          refine wpAnyIn_ready (rs := [16]) (by kernel_rfl) (by simp) ?_
          refine AllReadyIn.cons rfl (fun K hK => ?_) AllReadyIn.nil
          go_simp
          refine hK _ _ ?_
          clear hK K
          refine wpAnyIn_done (by kernel_rfl) ?_ _
          go_end0
          have y0 := hon5.cell (b := m) (by simp; omega) HNe.out 0
          have y2 := hon5.cell (b := m) (by simp; omega) HNe.out 2
          have z0 := hon5.frozen (b := m) (by simp; omega) HNe.out 0
          have z2 := hon5.frozen (b := m) (by simp; omega) HNe.out 2
          simp [go_sem, ↓IntWalk.iteOmega, Hmw0.out, Hmw2.out, Hmf0.out, Hmf2.out] at y0 y2 z0 z2
          have hOn : Only (fun k => k = m) w W5 := (HwB.out.ext ((ext_drew wq).alloc (by simp) _)).trans hon5 (fun i _ e => by cases e)
          have hs5 := hOn.size
          have hg5' : ∀ k, g5 = some k → wq.heap.size ≤ k := fun k h => by
            rcases hg5 with e | e <;> rw [e] at h
            · cases h
            · cases h; simp
          have hMG := Hm.out
          have hS : OwnS arcRep (fun _ => False) W5 ao5 cap5 g5 42 [(x1, x2)] := ⟨[arcCs (x1, x2)], ho5, .cons (arcRep_ok ⟨Hx.out.2.1, Hx.out.2.2⟩) .nil⟩
          refine ⟨rfl, ao5, cap5, g5, take_done (row := (x0, [(x1, x2)])) y0 u1 y2 z0 u2 z2 hS ?_ (by omega) (fun e => by have := hg5' m e; omega) ?_, fun k h => by have := hg5' k h; omega, hOn.setCell (fun _ => rfl) _⟩
          · exact hMG.rd.only hOn (fun h0 k off e => hMG.lne k off e h0)
          · intro b o e h0
            refine ⟨hMG.lne b o e h0, fun e2 => ?_⟩
            have := hg5' b e2
            obtain ⟨b', o', e3, hb', _⟩ := hMG.rd.pos h0
            rw [e3] at e
            cases e
            omega
        · refine AllReadyIn.cons rfl (fun K hK => ?_) AllReadyIn.nil
          go_simp
          refine hK _ _ ?_
          clear hK K
          refine wpAnyIn_take (i := 10) (v := ?_) rfl rfl (by kernel_rfl) (by kernel_rfl) (by kernel_rfl) (fun _ _ _ h => h) ⟨Or.inl ⟨by rfl, ?_⟩, fun _ => rfl⟩ ?_
          rotate_left
          · (intro w; go_simp; try (with_reducible rfl))
          refine wpAnyIn_ready (rs := [5, 11]) (by kernel_rfl) (by simp) ?_
          refine AllReadyIn.cons rfl (fun K hK => ?_) ?_
          · go_simp
            refine hK _ _ ?_
            clear hK K
            refine wpAnyIn_ready (rs := [11]) (by kernel_rfl) (by simp) ?_
            refine AllReadyIn.cons rfl (fun K hK => ?_) AllReadyIn.nil
            go_simp
            refine hK _ _ ?_
            clear hK K
            refine wpAnyIn_ready (rs := [12]) (by kernel_rfl) (by simp) ?_
            refine AllReadyIn.cons rfl (fun K hK => ?_) AllReadyIn.nil
            try rw [alloc_drew]
            refine step_appIn (fun _ => trivial) rfl (.tmp 66) (.tmp 72) 31 31 rfl hE ((HO.out.ext (ext_drew _)).alloc _) rfl rfl (srcManyE Try.underlying31 _ _ _ _ 2 _ (by simp) rfl (by simp [Value.oneCell'])) (by first | (simp [maxLen]; done) | (simp [maxLen]; omega)) (by omega) ?_
            intro ao5 cap5 g5 W5 ho5 hg5 hon5
            refine hK _ _ ?_
            clear hK K
            have u1 := hon5.cell (b := m) (by simp; omega) HNe.out 1
            have u2 := hon5.frozen (b := m) (by simp; omega) HNe.out 1
            simp [go_sem, ↓IntWalk.iteOmega, mw1, mf1] at u1 u2
            refine wpAnyIn_take (i := 13) (v := ?_) rfl rfl (by kernel_rfl) (by kernel_rfl) (by kernel_rfl) (fun _ _ _ h => h) ⟨Or.inl ⟨by rfl, ?_⟩, fun _ => rfl⟩ ?_
            rotate_left
            · (intro w; go_simp; try (with_reducible rfl))
            refine wpAnyIn_take (i := 14) (v := ?_) rfl rfl (by kernel_rfl) (by kernel_rfl) (by kernel_rfl) (fun _ _ _ h => h) ⟨Or.inl ⟨by rfl, ?_⟩, fun _ => rfl⟩ ?_
            rotate_left
            · (intro w; go_simp; try (with_reducible rfl))
            refine wpAnyIn_take (i := 15) (v := ?_) rfl rfl (by kernel_rfl) (by kernel_rfl) (by kernel_rfl) (fun _ _ _ h => h) ⟨Or.inl ⟨by rfl, ?_⟩, fun _ => rfl⟩ ?_
            rotate_left
            · (intro w; go_simp; try (with_reducible rfl))
            refine wpAnyIn_ready (rs := [16]) (by kernel_rfl) (by simp) ?_
            refine AllReadyIn.cons rfl (fun K hK => ?_) AllReadyIn.nil
            go_simp
            refine hK _ _ ?_
            clear hK K
            refine wpAnyIn_done (by kernel_rfl) ?_ _
            go_end0
            have y0 := hon5.cell (b := m) (by simp; omega) HNe.out 0
            have y2 := hon5.cell (b := m) (by simp; omega) HNe.out 2
            have z0 := hon5.frozen (b := m) (by simp; omega) HNe.out 0
            have z2 := hon5.frozen (b := m) (by simp; omega) HNe.out 2
            simp [go_sem, ↓IntWalk.iteOmega, Hmw0.out, Hmw2.out, Hmf0.out, Hmf2.out] at y0 y2 z0 z2
            have hOn : Only (fun k => k = m) w W5 := (HwB.out.ext ((ext_drew wq).alloc (by simp) _)).trans hon5 (fun i _ e => by cases e)
            have hs5 := hOn.size
            have hg5' : ∀ k, g5 = some k → wq.heap.size ≤ k := fun k h => by
              rcases hg5 with e | e <;> rw [e] at h
              · cases h
              · cases h; simp
            have hMG := Hm.out
            have hS : OwnS arcRep (fun _ => False) W5 ao5 cap5 g5 42 [(x1, x2)] := ⟨[arcCs (x1, x2)], ho5, .cons (arcRep_ok ⟨Hx.out.2.1, Hx.out.2.2⟩) .nil⟩
            refine ⟨rfl, ao5, cap5, g5, take_done (row := (x0, [(x1, x2)])) y0 u1 y2 z0 u2 z2 hS ?_ (by omega) (fun e => by have := hg5' m e; omega) ?_, fun k h => by have := hg5' k h; omega, hOn.setCell (fun _ => rfl) _⟩
            · exact hMG.rd.only hOn (fun h0 k off e => hMG.lne k off e h0)
            · intro b o e h0
              refine ⟨hMG.lne b o e h0, fun e2 => ?_⟩
              have := hg5' b e2
              obtain ⟨b', o', e3, hb', _⟩ := hMG.rd.pos h0
              rw [e3] at e
              cases e
              omega
          · refine AllReadyIn.cons rfl (fun K hK => ?_) AllReadyIn.nil
            go_simp
            refine hK _ _ ?_
            clear hK K
            refine wpAnyIn_ready (rs := [5]) (by kernel_rfl) (by simp) ?_
            refine AllReadyIn.cons rfl (fun K hK => ?_) AllReadyIn.nil
            go_simp
            refine hK _ _ ?_
            clear hK K
            refine wpAnyIn_ready (rs := [12]) (by kernel_rfl) (by simp) ?_
            refine AllReadyIn.cons rfl (fun K hK => ?_) AllReadyIn.nil
            try rw [alloc_drew]
            refine step_appIn (fun _ => trivial) rfl (.tmp 66) (.tmp 72) 31 31 rfl hE ((HO.out.ext (ext_drew _)).alloc _) rfl rfl (srcManyE Try.underlying31 _ _ _ _ 2 _ (by simp) rfl (by simp [Value.oneCell'])) (by first | (simp [maxLen]; done) | (simp [maxLen]; omega)) (by omega) ?_
            intro ao5 cap5 g5 W5 ho5 hg5 hon5
            refine hK _ _ ?_
            clear hK K
            have u1 := hon5.cell (b := m) (by simp; omega) HNe.out 1
            have u2 := hon5.frozen (b := m) (by simp; omega) HNe.out 1
            simp [go_sem, ↓IntWalk.iteOmega, mw1, mf1] at u1 u2
            refine wpAnyIn_take (i := 13) (v := ?_) rfl rfl (by kernel_rfl) (by kernel_rfl) (by kernel_rfl) (fun _ _ _ h => h) ⟨Or.inl ⟨by rfl, ?_⟩, fun _ => rfl⟩ ?_
            rotate_left
            · (intro w; go_simp; try (with_reducible rfl))
            refine wpAnyIn_take (i := 14) (v := ?_) rfl rfl (by kernel_rfl) (by kernel_rfl) (by kernel_rfl) (fun _ _ _ h => h) ⟨Or.inl ⟨by rfl, ?_⟩, fun _ => rfl⟩ ?_
            rotate_left
            · (intro w; go_simp; try (with_reducible rfl))
            refine wpAnyIn_take (i := 15) (v := ?_) rfl rfl (by kernel_rfl) (by kernel_rfl) (by kernel_rfl) (fun _ _ _ h => h) ⟨Or.inl ⟨by rfl, ?_⟩, fun _ => rfl⟩ ?_
            rotate_left
            · (intro w; go_simp; try (with_reducible rfl))
            refine wpAnyIn_ready (rs := [16]) (by kernel_rfl) (by simp) ?_
            refine AllReadyIn.cons rfl (fun K hK => ?_) AllReadyIn.nil
            go_simp
            refine hK _ _ ?_
            clear hK K
            refine wpAnyIn_done (by kernel_rfl) ?_ _
            go_end0
            have y0 := hon5.cell (b := m) (by simp; omega) HNe.out 0
            have y2 := hon5.cell (b := m) (by simp; omega) HNe.out 2
            have z0 := hon5.frozen (b := m) (by simp; omega) HNe.out 0
            have z2 := hon5.frozen (b := m) (by simp; omega) HNe.out 2
            simp [go_sem, ↓IntWalk.iteOmega, Hmw0.out, Hmw2.out, Hmf0.out, Hmf2.out] at y0 y2 z0 z2
            have hOn : Only (fun k => k = m) w W5 := (HwB.out.ext ((ext_drew wq).alloc (by simp) _)).trans hon5 (fun i _ e => by cases e)
            have hs5 := hOn.size
            have hg5' : ∀ k, g5 = some k → wq.heap.size ≤ k := fun k h => by
              rcases hg5 with e | e <;> rw [e] at h
              · cases h
              · cases h; simp
            have hMG := Hm.out
            have hS : OwnS arcRep (fun _ => False) W5 ao5 cap5 g5 42 [(x1, x2)] := ⟨[arcCs (x1, x2)], ho5, .cons (arcRep_ok ⟨Hx.out.2.1, Hx.out.2.2⟩) .nil⟩
            refine ⟨rfl, ao5, cap5, g5, take_done (row := (x0, [(x1, x2)])) y0 u1 y2 z0 u2 z2 hS ?_ (by omega) (fun e => by have := hg5' m e; omega) ?_, fun k h => by have := hg5' k h; omega, hOn.setCell (fun _ => rfl) _⟩
            · exact hMG.rd.only hOn (fun h0 k off e => hMG.lne k off e h0)
            · intro b o e h0
              refine ⟨hMG.lne b o e h0, fun e2 => ?_⟩
              have := hg5' b e2
              obtain ⟨b', o', e3, hb', _⟩ := hMG.rd.pos h0
              rw [e3] at e
              cases e
              omega
      · refine AllReadyIn.cons rfl (fun K hK => ?_) AllReadyIn.nil
        go_simp
        refine hK _ _ ?_
        clear hK K
        refine wpAnyIn_ready (rs := [5, 7]) (by kernel_rfl) (by simp) ?_
        refine AllReadyIn.cons rfl (fun K hK => ?_) ?_
        · go_simp
          refine hK _ _ ?_
          clear hK K
          refine wpAnyIn_ready (rs := [7]) (by kernel_rfl) (by simp) ?_
          refine AllReadyIn.cons rfl (fun K hK => ?_) AllReadyIn.nil
          go_simp
          refine hK _ _ ?_
          clear hK K
          refine wpAnyIn_take (i := 10) (v := ?_) rfl rfl (by kernel_rfl) (by kernel_rfl) (by kernel_rfl) (fun _ _ _ h => h) ⟨Or.inl ⟨by rfl, ?_⟩, fun _ => rfl⟩ ?_
          rotate_left
          · (intro w; go_simp; try (with_reducible rfl))
          refine wpAnyIn_ready (rs := [11]) (by kernel_rfl) (by simp) ?_
          refine AllReadyIn.cons rfl (fun K hK => ?_) AllReadyIn.nil
          go_simp
          refine hK _ _ ?_
          clear hK K
          refine wpAnyIn_ready (rs := [12]) (by kernel_rfl) (by simp) ?_
          refine AllReadyIn.cons rfl (fun K hK => ?_) AllReadyIn.nil
          try rw [alloc_drew]
          refine step_appIn (fun _ => trivial) rfl (.tmp 66) (.tmp 72) 31 31 rfl hE ((HO.out.ext (ext_drew _)).alloc _) rfl rfl (srcManyE Try.underlying31 _ _ _ _ 2 _ (by simp) rfl (by simp [Value.oneCell'])) (by first | (simp [maxLen]; done) | (simp [maxLen]; omega)) (by omega) ?_
          intro ao5 cap5 g5 W5 ho5 hg5 hon5
          refine hK _ _ ?_
          clear hK K
          have u1 := hon5.cell (b := m) (by simp; omega) HNe.out 1
          have u2 := hon5.frozen (b := m) (by simp; omega) HNe.out 1
          simp [go_sem, ↓IntWalk.iteOmega, mw1, mf1] at u1 u2
          refine wpAnyIn_take (i := 13) (v := ?_) rfl rfl (by kernel_rfl) (by kernel_rfl) (by kernel_rfl) (fun _ _ _ h => h) ⟨Or.inl ⟨by rfl, ?_⟩, fun _ => rfl⟩ ?_
          rotate_left
          · (intro w; go_simp; try (with_reducible rfl))
          refine wpAnyIn_take (i := 14) (v := ?_) rfl rfl (by kernel_rfl) (by kernel_rfl) (by kernel_rfl) (fun _ _ _ h => h) ⟨Or.inl ⟨by rfl, ?_⟩, fun _ => rfl⟩ ?_
          rotate_left
          · (intro w; go_simp; try (with_reducible rfl))
          refine wpAnyIn_take (i := 15) (v := ?_) rfl rfl (by kernel_rfl) (by kernel_rfl) (by kernel_rfl) (fun _ _ _ h => h) ⟨Or.inl ⟨by rfl, ?_⟩, fun _ => rfl⟩ ?_
          rotate_left
          · (intro w; go_simp; try (with_reducible rfl))
          refine wpAnyIn_ready (rs := [16]) (by kernel_rfl) (by simp) ?_
          refine AllReadyIn.cons rfl (fun K hK => ?_) AllReadyIn.nil
          go_simp
          refine hK _ _ ?_
          clear hK K
          refine wpAnyIn_done (by kernel_rfl) ?_ _
          go_end0
          have y0 := hon5.cell (b := m) (by simp; omega) HNe.out 0
          have y2 := hon5.cell (b := m) (by simp; omega) HNe.out 2
          have z0 := hon5.frozen (b := m) (by simp; omega) HNe.out 0
          have z2 := hon5.frozen (b := m) (by simp; omega) HNe.out 2
          simp [go_sem, ↓IntWalk.iteOmega, Hmw0.out, Hmw2.out, Hmf0.out, Hmf2.out] at y0 y2 z0 z2
          have hOn : Only (fun k => k = m) w W5 := (HwB.out.ext ((ext_drew wq).alloc (by simp) _)).trans hon5 (fun i _ e => by cases e)
          have hs5 := hOn.size
          have hg5' : ∀ k, g5 = some k → wq.heap.size ≤ k := fun k h => by
            rcases hg5 with e | e <;> rw [e] at h
            · cases h
            · cases h; simp
          have hMG := Hm.out
          have hS : OwnS arcRep (fun _ => False) W5 ao5 cap5 g5 42 [(x1, x2)] := ⟨[arcCs (x1, x2)], ho5, .cons (arcRep_ok ⟨Hx.out.2.1, Hx.out.2.2⟩) .nil⟩
          refine ⟨rfl, ao5, cap5, g5, take_done (row := (x0, [(x1, x2)])) y0 u1 y2 z0 u2 z2 hS ?_ (by omega) (fun e => by have := hg5' m e; omega) ?_, fun k h => by have := hg5' k h; omega, hOn.setCell (fun _ => rfl) _⟩
          · exact hMG.rd.only hOn (fun h0 k off e => hMG.lne k off e h0)
          · intro b o e h0
            refine ⟨hMG.lne b o e h0, fun e2 => ?_⟩
            have := hg5' b e2
            obtain ⟨b', o', e3, hb', _⟩ := hMG.rd.pos h0
            rw [e3] at e
            cases e
            omega
        · refine AllReadyIn.cons rfl (fun K hK => ?_) AllReadyIn.nil
          go_simp
          refine hK _ _ ?_
          clear hK K
          refine wpAnyIn_take (i := 10) (v := ?_) rfl rfl (by kernel_rfl) (by kernel_rfl) (by kernel_rfl) (fun _ _ _ h => h) ⟨Or.inl ⟨by rfl, ?_⟩, fun _ => rfl⟩ ?_
          rotate_left
          · (intro w; go_simp; try (with_reducible rfl))
          refine wpAnyIn_ready (rs := [5, 11]) (by kernel_rfl) (by simp) ?_
          refine AllReadyIn.cons rfl (fun K hK => ?_) ?_
          · go_simp
            refine hK _ _ ?_
            clear hK K
            refine wpAnyIn_ready (rs := [11]) (by kernel_rfl) (by simp) ?_
            refine AllReadyIn.cons rfl (fun K hK => ?_) AllReadyIn.nil
            go_simp
            refine hK _ _ ?_
            clear hK K
            refine wpAnyIn_ready (rs := [12]) (by kernel_rfl) (by simp) ?_
            refine AllReadyIn.cons rfl (fun K hK => ?_) AllReadyIn.nil
            try rw [alloc_drew]
            refine step_appIn (fun _ => trivial) rfl (.tmp 66) (.tmp 72) 31 31 rfl hE ((HO.out.ext (ext_drew _)).alloc _) rfl rfl (srcManyE Try.underlying31 _ _ _ _ 2 _ (by simp) rfl (by simp [Value.oneCell'])) (by first | (simp [maxLen]; done) | (simp [maxLen]; omega)) (by omega) ?_
            intro ao5 cap5 g5 W5 ho5 hg5 hon5
            refine hK _ _ ?_
            clear hK K
            have u1 := hon5.cell (b := m) (by simp; omega) HNe.out 1
            have u2 := hon5.frozen (b := m) (by simp; omega) HNe.out 1
            simp [go_sem, ↓IntWalk.iteOmega, mw1, mf1] at u1 u2
            refine wpAnyIn_take (i := 13) (v := ?_) rfl rfl (by kernel_rfl) (by kernel_rfl) (by kernel_rfl) (fun _ _ _ h => h) ⟨Or.inl ⟨by rfl, ?_⟩, fun _ => rfl⟩ ?_
            rotate_left
            · (intro w; go_simp; try (with_reducible rfl))
            refine wpAnyIn_take (i := 14) (v := ?_) rfl rfl (by kernel_rfl) (by kernel_rfl) (by kernel_rfl) (fun _ _ _ h => h) ⟨Or.inl ⟨by rfl, ?_⟩, fun _ => rfl⟩ ?_
            rotate_left
            · (intro w; go_simp; try (with_reducible rfl))
            refine wpAnyIn_take (i := 15) (v := ?_) rfl rfl (by kernel_rfl) (by kernel_rfl) (by kernel_rfl) (fun _ _ _ h => h) ⟨Or.inl ⟨by rfl, ?_⟩, fun _ => rfl⟩ ?_
            rotate_left
            · (intro w; go_simp; try (with_reducible rfl))
            refine wpAnyIn_ready (rs := [16]) (by kernel_rfl) (by simp) ?_
            refine AllReadyIn.cons rfl (fun K hK => ?_) AllReadyIn.nil
            go_simp
            refine hK _ _ ?_
            clear hK K
            refine wpAnyIn_done (by kernel_rfl) ?_ _
            go_end0
            have y0 := hon5.cell (b := m) (by simp; omega) HNe.out 0
            have y2 := hon5.cell (b := m) (by simp; omega) HNe.out 2
            have z0 := hon5.frozen (b := m) (by simp; omega) HNe.out 0
            have z2 := hon5.frozen (b := m) (by simp; omega) HNe.out 2
            simp [go_sem, ↓IntWalk.iteOmega, Hmw0.out, Hmw2.out, Hmf0.out, Hmf2.out] at y0 y2 z0 z2
            have hOn : Only (fun k => k = m) w W5 := (HwB.out.ext ((ext_drew wq).alloc (by simp) _)).trans hon5 (fun i _ e => by cases e)
            have hs5 := hOn.size
            have hg5' : ∀ k, g5 = some k → wq.heap.size ≤ k := fun k h => by
              rcases hg5 with e | e <;> rw [e] at h
              · cases h
              · cases h; simp
            have hMG := Hm.out
            have hS : OwnS arcRep (fun _ => False) W5 ao5 cap5 g5 42 [(x1, x2)] := ⟨[arcCs (x1, x2)], ho5, .cons (arcRep_ok ⟨Hx.out.2.1, Hx.out.2.2⟩) .nil⟩
            refine ⟨rfl, ao5, cap5, g5, take_done (row := (x0, [(x1, x2)])) y0 u1 y2 z0 u2 z2 hS ?_ (by omega) (fun e => by have := hg5' m e; omega) ?_, fun k h => by have := hg5' k h; omega, hOn.setCell (fun _ => rfl) _⟩
            · exact hMG.rd.only hOn (fun h0 k off e => hMG.lne k off e h0)
            · intro b o e h0
              refine ⟨hMG.lne b o e h0, fun e2 => ?_⟩
              have := hg5' b e2
              obtain ⟨b', o', e3, hb', _⟩ := hMG.rd.pos h0
              rw [e3] at e
              cases e
              omega
          · refine AllReadyIn.cons rfl (fun K hK => ?_) AllReadyIn.nil
            go_simp
            refine hK _ _ ?_
            clear hK K
            refine wpAnyIn_ready (rs := [5]) (by kernel_rfl) (by simp) ?_
            refine AllReadyIn.cons rfl (fun K hK => ?_) AllReadyIn.nil
            go_simp
            refine hK _ _ ?_
            clear hK K
            refine wpAnyIn_ready (rs := [12]) (by kernel_rfl) (by simp) ?_
            refine AllReadyIn.cons rfl (fun K hK => ?_) AllReadyIn.nil
            try rw [alloc_drew]
            refine step_appIn (fun _ => trivial) rfl (.tmp 66) (.tmp 72) 31 31 rfl hE ((HO.out.ext (ext_drew _)).alloc _) rfl rfl (srcManyE Try.underlying31 _ _ _ _ 2 _ (by simp) rfl (by simp [Value.oneCell'])) (by first | (simp [maxLen]; done) | (simp [maxLen]; omega)) (by omega) ?_
            intro ao5 cap5 g5 W5 ho5 hg5 hon5
            refine hK _ _ ?_
            clear hK K
            have u1 := hon5.cell (b := m) (by simp; omega) HNe.out 1
            have u2 := hon5.frozen (b := m) (by simp; omega) HNe.out 1
            simp [go_sem, ↓IntWalk.iteOmega, mw1, mf1] at u1 u2
            refine wpAnyIn_take (i := 13) (v := ?_) rfl rfl (by kernel_rfl) (by kernel_rfl) (by kernel_rfl) (fun _ _ _ h => h) ⟨Or.inl ⟨by rfl, ?_⟩, fun _ => rfl⟩ ?_
            rotate_left
            · (intro w; go_simp; try (with_reducible rfl))
            refine wpAnyIn_take (i := 14) (v := ?_) rfl rfl (by kernel_rfl) (by kernel_rfl) (by kernel_rfl) (fun _ _ _ h => h) ⟨Or.inl ⟨by rfl, ?_⟩, fun _ => rfl⟩ ?_
            rotate_left
            · (intro w; go_simp; try (with_reducible rfl))
            refine wpAnyIn_take (i := 15) (v := ?_) rfl rfl (by kernel_rfl) (by kernel_rfl) (by kernel_rfl) (fun _ _ _ h => h) ⟨Or.inl ⟨by rfl, ?_⟩, fun _ => rfl⟩ ?_
            rotate_left
            · (intro w; go_simp; try (with_reducible rfl))
            refine wpAnyIn_ready (rs := [16]) (by kernel_rfl) (by simp) ?_
            refine AllReadyIn.cons rfl (fun K hK => ?_) AllReadyIn.nil
            go_simp
            refine hK _ _ ?_
            clear hK K
            refine wpAnyIn_done (by kernel_rfl) ?_ _
            go_end0
            have y0 := hon5.cell (b := m) (by simp; omega) HNe.out 0
            have y2 := hon5.cell (b := m) (by simp; omega) HNe.out 2
            have z0 := hon5.frozen (b := m) (by simp; omega) HNe.out 0
            have z2 := hon5.frozen (b := m) (by simp; omega) HNe.out 2
            simp [go_sem, ↓IntWalk.iteOmega, Hmw0.out, Hmw2.out, Hmf0.out, Hmf2.out] at y0 y2 z0 z2
            have hOn : Only (fun k => k = m) w W5 := (HwB.out.ext ((ext_drew wq).alloc (by simp) _)).trans hon5 (fun i _ e => by cases e)
            have hs5 := hOn.size
            have hg5' : ∀ k, g5 = some k → wq.heap.size ≤ k := fun k h => by
              rcases hg5 with e | e <;> rw [e] at h
              · cases h
              · cases h; simp
            have hMG := Hm.out
            have hS : OwnS arcRep (fun _ => False) W5 ao5 cap5 g5 42 [(x1, x2)] := ⟨[arcCs (x1, x2)], ho5, .cons (arcRep_ok ⟨Hx.out.2.1, Hx.out.2.2⟩) .nil⟩
            refine ⟨rfl, ao5, cap5, g5, take_done (row := (x0, [(x1, x2)])) y0 u1 y2 z0 u2 z2 hS ?_ (by omega) (fun e => by have := hg5' m e; omega) ?_, fun k h => by have := hg5' k h; omega, hOn.setCell (fun _ => rfl) _⟩
            · exact hMG.rd.only hOn (fun h0 k off e => hMG.lne k off e h0)
            · intro b o e h0
              refine ⟨hMG.lne b o e h0, fun e2 => ?_⟩
              have := hg5' b e2
              obtain ⟨b', o', e3, hb', _⟩ := hMG.rd.pos h0
              rw [e3] at e
              cases e
              omega
  · skip
    clear hfb
    go_enter Try.func124, Try.ntmps124
    go_wp2_with (go_at_call 123; refine (HFull.out _ (ext_alloc w _)).mono ?_; rintro e w2 ⟨rfl, hB2⟩; have e0 := ((bcell hB2).1 w.heap.size 0 (by simp)).trans (show _ = some (Value.int .u32 (x0 : Nat)) by simp [go_sem]); have e1 := ((bcell hB2).1 w.heap.size 1 (by simp)).trans (show _ = some (Value.int .u32 (x1 : Nat)) by simp [go_sem]); have e2 := ((bcell hB2).1 w.heap.size 2 (by simp)).trans (show _ = some (Value.int .u32 (x2 : Nat)) by simp [go_sem]); have mc0 := ((bcell ((ext_alloc w _).trans (hB2.mono (by simp)))).1 m 0 hmlt).trans mc0; have mc1 := ((bcell ((ext_alloc w _).trans (hB2.mono (by simp)))).1 m 1 hmlt).trans mc1; have mf0 := ((bcell ((ext_alloc w _).trans (hB2.mono (by simp)))).2 m 0 hmlt).trans mf0; have mf1 := ((bcell ((ext_alloc w _).trans (hB2.mono (by simp)))).2 m 1 hmlt).trans mf1; have mc2 := ((bcell ((ext_alloc w _).trans (hB2.mono (by simp)))).1 m 2 hmlt).trans mc2; have mf2 := ((bcell ((ext_alloc w _).trans (hB2.mono (by simp)))).2 m 2 hmlt).trans mf2; have hz2 := hB2.size; simp at hz2; have HB2 := Lib.hid hB2; clear hB2)
    go_quiet (fail)
    go_wp2_with fail
    obtain ⟨wq, hwq⟩ : ∃ x, ((w2.setCell ⟨m, 0, none⟩ (.int .u32 (x0 : Nat))).setCell ⟨m, 1, none⟩ (.slice none 0 0)).drewN nq = x := ⟨_, rfl⟩
    have hwB : Only (fun k => k = m) w wq := by
      rw [← hwq]
      exact (((Only.of_below (fp := fun k => k = m) ((ext_alloc w _).trans (HB2.out.mono (by simp)))).setCell (p := ⟨m, 0, none⟩) (fun _ => rfl) _).setCell (p := ⟨m, 1, none⟩) (fun _ => rfl) _).drewN nq
    have mw0 : wq.cell? ⟨m, 0, none⟩ = some (.int .u32 (x0 : Nat)) := by rw [← hwq]; simp [go_sem, cell_set_ite, mc0]
    have mw1 : wq.cell? ⟨m, 1, none⟩ = some (.slice none 0 0) := by rw [← hwq]; simp [go_sem, cell_set_ite, mc1]
    have mf1 : wq.frozen? ⟨m, 1, none⟩ = false := by rw [← hwq]; simp [go_sem, mf1]
    have e1 : wq.cell? ⟨w.heap.size, 1, none⟩ = some (.int .u32 (x1 : Nat)) := by rw [← hwq]; simp [go_sem, cell_set_ite, e1, hmw, hmw2]
    have e2 : wq.cell? ⟨w.heap.size, 2, none⟩ = some (.int .u32 (x2 : Nat)) := by rw [← hwq]; simp [go_sem, cell_set_ite, e2, hmw, hmw2]
    have hzq : w.heap.size + 1 ≤ wq.heap.size := by rw [← hwq]; simpa using hz2
    have HO := Lib.hid (Own.nil wq 42 2)
    have HNe : Hid ((none : Option Nat) ≠ some m) := Lib.hid (by simp)
    have mw2 : wq.cell? ⟨m, 2, none⟩ = some (.slice lo last.length lc) := by rw [← hwq]; simp [go_sem, cell_set_ite, mc2]
    have mf0q : wq.frozen? ⟨m, 0, none⟩ = false := by rw [← hwq]; simp [go_sem, mf0]
    have mf2q : wq.frozen? ⟨m, 2, none⟩ = false := by rw [← hwq]; simp [go_sem, mf2]
    have Hmw2 := Lib.hid mw2
    have Hmf0 := Lib.hid mf0q
    have Hmf2 := Lib.hid mf2q
    have HwB := Lib.hid hwB
    have Hmw0 := Lib.hid mw0
    have hmq : ¬ m = wq.heap.size := by omega
    have hmq2 : ¬ wq.heap.size = m := by omega
    have hsq : ¬ w.heap.size = wq.heap.size := by omega
    have hsq2 : ¬ wq.heap.size = w.heap.size := by omega
    rw [hwq]
    clear hwq hwB mc0 mc1 mc2 mf0 mf2 e0 mw0 mw2 mf0q mf2q
    refine (wpIn_wide (n := 0)).1 ?_
    refine wpIn_region_any (by kernel_rfl) ?_
    change wpAnyIn _ _ _ _ _ _ _ _ _ (World.drew _)
    refine wpAnyIn_take (i := 0) (v := ?_) rfl rfl (by kernel_rfl) (by kernel_rfl) (by kernel_rfl) (fun _ _ _ h => h) ⟨Or.inl ⟨by rfl, ?_⟩, fun _ => rfl⟩ ?_
    rotate_left
    · (intro w; go_simp; try (with_reducible rfl))
    refine wpAnyIn_take (i := 1) (v := ?_) rfl rfl (by kernel_rfl) (by kernel_rfl) (by kernel_rfl) (fun _ _ _ h => h) ⟨Or.inl ⟨by rfl, ?_⟩, fun _ => rfl⟩ ?_
    rotate_left
    · (intro w; go_simp; try (with_reducible rfl))
    refine wpAnyIn_take (i := 2) (v := ?_) rfl rfl (by kernel_rfl) (by kernel_rfl) (by kernel_rfl) (fun _ _ _ h => h) ⟨Or.inl ⟨by rfl, ?_⟩, fun _ => rfl⟩ ?_
    rotate_left
    · (intro w; go_simp; try (with_reducible rfl))
    refine wpAnyIn_take (i := 3) (v := ?_) rfl rfl (by kernel_rfl) (by kernel_rfl) (by kernel_rfl) (fun _ _ _ h => h) ⟨Or.inl ⟨by rfl, ?_⟩, fun _ => rfl⟩ ?_
    rotate_left
    · (intro w; go_simp; try (with_reducible rfl))
    refine wpAnyIn_take (i := 4) (v := ?_) rfl rfl (by kernel_rfl) (by kernel_rfl) (by kernel_rfl) (fun _ _ _ h => h) ⟨Or.inl ⟨by rfl, ?_⟩, fun _ => rfl⟩ ?_
    rotate_left
    · (intro w; go_simp; try (with_reducible rfl))
    refine wpAnyIn_take (i := 6) (v := ?_) rfl rfl (by kernel_rfl) (by kernel_rfl) (by kernel_rfl) (fun _ _ _ h => h) ⟨Or.inl ⟨by rfl, ?_⟩, fun _ => rfl⟩ ?_
    rotate_left
    · (intro w; go_simp; try (with_reducible rfl))
    refine wpAnyIn_take (i := 8) (v := ?_) rfl rfl (by kernel_rfl) (by kernel_rfl) (by kernel_rfl) (fun _ _ _ h => h) ⟨Or.inl ⟨by rfl, ?_⟩, fun _ => rfl⟩ ?_
    rotate_left
    · (intro w; go_simp; try (with_reducible rfl))
    refine wpAnyIn_ready (rs := [5, 7, 9]) (by kernel_rfl) (by simp) ?_
    refine AllReadyIn.cons rfl (fun K hK => ?_) ?_
    · go_simp
      refine hK _ _ ?_
      clear hK K
      refine wpAnyIn_ready (rs := [7, 9]) (by kernel_rfl) (by simp) ?_
      refine AllReadyIn.cons rfl (fun K hK => ?_) ?_
      · go_simp
        refine hK _ _ ?_
        clear hK K
        refine wpAnyIn_ready (rs := [9]) (by kernel_rfl) (by simp) ?_
        refine AllReadyIn.cons rfl (fun K hK => ?_) AllReadyIn.nil
        go_simp
        refine hK _ _ ?_
        clear hK K
        refine wpAnyIn_take (i := 10) (v := ?_) rfl rfl (by kernel_rfl) (by kernel_rfl) (by kernel_rfl) (fun _ _ _ h => h) ⟨Or.inl ⟨by rfl, ?_⟩, fun _ => rfl⟩ ?_
        rotate_left
        · (intro w; go_simp; try (with_reducible rfl))
        refine wpAnyIn_ready (rs := [11]) (by kernel_rfl) (by simp) ?_
        refine AllReadyIn.cons rfl (fun K hK => ?_) AllReadyIn.nil
        go_simp
        refine hK _ _ ?_
        clear hK K
        refine wpAnyIn_ready (rs := [12]) (by kernel_rfl) (by simp) ?_
        refine AllReadyIn.cons rfl (fun K hK => ?_) AllReadyIn.nil
        try rw [alloc_drew]
        refine step_appIn (fun _ => trivial) rfl (.tmp 66) (.tmp 72) 31 31 rfl hE ((HO.out.ext (ext_drew _)).alloc _) rfl rfl (srcManyE Try.underlying31 _ _ _ _ 2 _ (by simp) rfl (by simp [Value.oneCell'])) (by first | (simp [maxLen]; done) | (simp [maxLen]; omega)) (by omega) ?_
        intro ao5 cap5 g5 W5 ho5 hg5 hon5
        refine hK _ _ ?_
        clear hK K
        have u1 := hon5.cell (b := m) (by simp; omega) HNe.out 1
        have u2 := hon5.frozen (b := m) (by simp; omega) HNe.out 1
        simp [go_sem, ↓IntWalk.iteOmega, mw1, mf1] at u1 u2
        refine wpAnyIn_take (i := 13) (v := ?_) rfl rfl (by kernel_rfl) (by kernel_rfl) (by kernel_rfl) (fun _ _ _ h => h) ⟨Or.inl ⟨by rfl, ?_⟩, fun _ => rfl⟩ ?_
        rotate_left
        · (intro w; go_simp; try (with_reducible rfl))
        refine wpAnyIn_take (i := 14) (v := ?_) rfl rfl (by kernel_rfl) (by kernel_rfl) (by kernel_rfl) (fun _ _ _ h => h) ⟨Or.inl ⟨by rfl, ?_⟩, fun _ => rfl⟩ ?_
        rotate_left
        · (intro w; go_simp; try (with_reducible rfl))
        refine wpAnyIn_take (i := 15) (v := ?_) rfl rfl (by kernel_rfl) (by kernel_rfl) (by kernel_rfl) (fun _ _ _ h => h) ⟨Or.inl ⟨by rfl, ?_⟩, fun _ => rfl⟩ ?_
        rotate_left
        · (intro w; go_simp; try (with_reducible rfl))
        refine wpAnyIn_ready (rs := [16]) (by kernel_rfl) (by simp) ?_
        refine AllReadyIn.cons rfl (fun K hK => ?_) AllReadyIn.nil
        go_simp
        refine hK _ _ ?_
        clear hK K
        refine wpAnyIn_done (by kernel_rfl) ?_ _
        go_end0
        have y0 := hon5.cell (b := m) (by simp; omega) HNe.out 0
        have y2 := hon5.cell (b := m) (by simp; omega) HNe.out 2
        have z0 := hon5.frozen (b := m) (by simp; omega) HNe.out 0
        have z2 := hon5.frozen (b := m) (by simp; omega) HNe.out 2
        simp [go_sem, ↓IntWalk.iteOmega, Hmw0.out, Hmw2.out, Hmf0.out, Hmf2.out] at y0 y2 z0 z2
        have hOn : Only (fun k => k = m) w W5 := (HwB.out.ext ((ext_drew wq).alloc (by simp) _)).trans hon5 (fun i _ e => by cases e)
        have hs5 := hOn.size
        have hg5' : ∀ k, g5 = some k → wq.heap.size ≤ k := fun k h => by
          rcases hg5 with e | e <;> rw [e] at h
          · cases h
          · cases h; simp
        have hMG := Hm.out
        have hS : OwnS arcRep (fun _ => False) W5 ao5 cap5 g5 42 [(x1, x2)] := ⟨[arcCs (x1, x2)], ho5, .cons (arcRep_ok ⟨Hx.out.2.1, Hx.out.2.2⟩) .nil⟩
        refine ⟨rfl, ao5, cap5, g5, take_done (row := (x0, [(x1, x2)])) y0 u1 y2 z0 u2 z2 hS ?_ (by omega) (fun e => by have := hg5' m e; omega) ?_, fun k h => by have := hg5' k h; omega, hOn.setCell (fun _ => rfl) _⟩
        · exact hMG.rd.only hOn (fun h0 k off e => hMG.lne k off e h0)
        · intro b o e h0
          refine ⟨hMG.lne b o e h0, fun e2 => ?_⟩
          have := hg5' b e2
          obtain ⟨b', o', e3, hb', _⟩ := hMG.rd.pos h0
          rw [e3] at e
          cases e
          omega
      · refine AllReadyIn.cons rfl (fun K hK => ?_) AllReadyIn.nil
        go_simp
        refine hK _ _ ?_
        clear hK K
        refine wpAnyIn_ready (rs := [7]) (by kernel_rfl) (by simp) ?_
        refine AllReadyIn.cons rfl (fun K hK => ?_) AllReadyIn.nil
        go_simp
        refine hK _ _ ?_
        clear hK K
        refine wpAnyIn_take (i := 10) (v := ?_) rfl rfl (by kernel_rfl) (by kernel_rfl) (by kernel_rfl) (fun _ _ _ h => h) ⟨Or.inl ⟨by rfl, ?_⟩, fun _ => rfl⟩ ?_
        rotate_left
        · (intro w; go_simp; try (with_reducible rfl))
        refine wpAnyIn_ready (rs := [11]) (by kernel_rfl) (by simp) ?_
        refine AllReadyIn.cons rfl (fun K hK => ?_) AllReadyIn.nil
        go_simp
        refine hK _ _ ?_
        clear hK K
        refine wpAnyIn_ready (rs := [12]) (by kernel_rfl) (by simp) ?_
        refine AllReadyIn.cons rfl (fun K hK => ?_) AllReadyIn.nil
        try rw [alloc_drew]
        refine step_appIn (fun _ => trivial) rfl (.tmp 66) (.tmp 72) 31 31 rfl hE ((HO.out.ext (ext_drew _)).alloc _) rfl rfl (srcManyE Try.underlying31 _ _ _ _ 2 _ (by simp) rfl (by simp [Value.oneCell'])) (by first | (simp [maxLen]; done) | (simp [maxLen]; omega)) (by omega) ?_
        intro ao5 cap5 g5 W5 ho5 hg5 hon5
        refine hK _ _ ?_
        clear hK K
        have u1 := hon5.cell (b := m) (by simp; omega) HNe.out 1
        have u2 := hon5.frozen (b := m) (by simp; omega) HNe.out 1
        simp [go_sem, ↓IntWalk.iteOmega, mw1, mf1] at u1 u2
        refine wpAnyIn_take (i := 13) (v := ?_) rfl rfl (by kernel_rfl) (by kernel_rfl) (by kernel_rfl) (fun _ _ _ h => h) ⟨Or.inl ⟨by rfl, ?_⟩, fun _ => rfl⟩ ?_
        rotate_left
        · (intro w; go_simp; try (with_reducible rfl))
        refine wpAnyIn_take (i := 14) (v := ?_) rfl rfl (by kernel_rfl) (by kernel_rfl) (by kernel_rfl) (fun _ _ _ h => h) ⟨Or.inl ⟨by rfl, ?_⟩, fun _ => rfl⟩ ?_
        rotate_left
        · (intro w; go_simp; try (with_reducible rfl))
        refine wpAnyIn_take (i := 15) (v := ?_) rfl rfl (by kernel_rfl) (by kernel_rfl) (by kernel_rfl) (fun _ _ _ h => h) ⟨Or.inl ⟨by rfl, ?_⟩, fun _ => rfl⟩ ?_
        rotate_left
        · (intro w; go_simp; try (with_reducible rfl))
        refine wpAnyIn_ready (rs := [16]) (by kernel_rfl) (by simp) ?_
        refine AllReadyIn.cons rfl (fun K hK => ?_) AllReadyIn.nil
        go_simp
        refine hK _ _ ?_
        clear hK K
        refine wpAnyIn_done (by kernel_rfl) ?_ _
        go_end0
        have y0 := hon5.cell (b := m) (by simp; omega) HNe.out 0
        have y2 := hon5.cell (b := m) (by simp; omega) HNe.out 2
        have z0 := hon5.frozen (b := m) (by simp; omega) HNe.out 0
        have z2 := hon5.frozen (b := m) (by simp; omega) HNe.out 2
        simp [go_sem, ↓IntWalk.iteOmega, Hmw0.out, Hmw2.out, Hmf0.out, Hmf2.out] at y0 y2 z0 z2
        have hOn : Only (fun k => k = m) w W5 := (HwB.out.ext ((ext_drew wq).alloc (by simp) _)).trans hon5 (fun i _ e => by cases e)
        have hs5 := hOn.size
        have hg5' : ∀ k, g5 = some k → wq.heap.size ≤ k := fun k h => by
          rcases hg5 with e | e <;> rw [e] at h
          · cases h
          · cases h; simp
        have hMG := Hm.out
        have hS : OwnS arcRep (fun _ => False) W5 ao5 cap5 g5 42 [(x1, x2)] := ⟨[arcCs (x1, x2)], ho5, .cons (arcRep_ok ⟨Hx.out.2.1, Hx.out.2.2⟩) .nil⟩
        refine ⟨rfl, ao5, cap5, g5, take_done (row := (x0, [(x1, x2)])) y0 u1 y2 z0 u2 z2 hS ?_ (by omega) (fun e => by have := hg5' m e; omega) ?_, fun k h => by have := hg5' k h; omega, hOn.setCell (fun _ => rfl) _⟩
        · exact hMG.rd.only hOn (fun h0 k off e => hMG.lne k off e h0)
        · intro b o e h0
          refine ⟨hMG.lne b o e h0, fun e2 => ?_⟩
          have := hg5' b e2
          obtain ⟨b', o', e3, hb', _⟩ := hMG.rd.pos h0
          rw [e3] at e
          cases e
          omega
    · refine AllReadyIn.cons rfl (fun K hK => ?_) ?_
      · go_simp
        refine hK _ _ ?_
        clear hK K
        refine wpAnyIn_ready (rs := [5, 9]) (by kernel_rfl) (by simp) ?_
        refine AllReadyIn.cons rfl (fun K hK => ?_) ?_
        · go_simp
          refine hK _ _ ?_
          clear hK K
          refine wpAnyIn_ready (rs := [9]) (by kernel_rfl) (by simp) ?_
          refine AllReadyIn.cons rfl (fun K hK => ?_) AllReadyIn.nil
          go_simp
          refine hK _ _ ?_
          clear hK K
          refine wpAnyIn_take (i := 10) (v := ?_) rfl rfl (by kernel_rfl) (by kernel_rfl) (by kernel_rfl) (fun _ _ _ h => h) ⟨Or.inl ⟨by rfl, ?_⟩, fun _ => rfl⟩ ?_
          rotate_left
          · (intro w; go_simp; try (with_reducible rfl))
          refine wpAnyIn_ready (rs := [11]) (by kernel_rfl) (by simp) ?_
          refine AllReadyIn.cons rfl (fun K hK => ?_) AllReadyIn.nil
          go_simp
          refine hK _ _ ?_
          clear hK K
          refine wpAnyIn_ready (rs := [12]) (by kernel_rfl) (by simp) ?_
          refine AllReadyIn.cons rfl (fun K hK => ?_) AllReadyIn.nil
          try rw [alloc_drew]
          refine step_appIn (fun _ => trivial) rfl (.tmp 66) (.tmp 72) 31 31 rfl hE ((HO.out.ext (ext_drew _)).alloc _) rfl rfl (srcManyE Try.underlying31 _ _ _ _ 2 _ (by simp) rfl (by simp [Value.oneCell'])) (by first | (simp [maxLen]; done) | (simp [maxLen]; omega)) (by omega) ?_
          intro ao5 cap5 g5 W5 ho5 hg5 hon5
          refine hK _ _ ?_
          clear hK K
          have u1 := hon5.cell (b := m) (by simp; omega) HNe.out 1
          have u2 := hon5.frozen (b := m) (by simp; omega) HNe.out 1
          simp [go_sem, ↓IntWalk.iteOmega, mw1, mf1] at u1 u2
          refine wpAnyIn_take (i := 13) (v := ?_) rfl rfl (by kernel_rfl) (by kernel_rfl) (by kernel_rfl) (fun _ _ _ h => h) ⟨Or.inl ⟨by rfl, ?_⟩, fun _ => rfl⟩ ?_
          rotate_left
          · (intro w; go_simp; try (with_reducible rfl))
          refine wpAnyIn_take (i := 14) (v := ?_) rfl rfl (by kernel_rfl) (by kernel_rfl) (by kernel_rfl) (fun _ _ _ h => h) ⟨Or.inl ⟨by rfl, ?_⟩, fun _ => rfl⟩ ?_
          rotate_left
          · (intro w; go_simp; try (with_reducible rfl))
          refine wpAnyIn_take (i := 15) (v := ?_) rfl rfl (by kernel_rfl) (by kernel_rfl) (by kernel_rfl) (fun _ _ _ h => h) ⟨Or.inl ⟨by rfl, ?_⟩, fun _ => rfl⟩ ?_
          rotate_left
          · (intro w; go_simp; try (with_reducible rfl))
          refine wpAnyIn_ready (rs := [16]) (by kernel_rfl) (by simp) ?_
          refine AllReadyIn.cons rfl (fun K hK => ?_) AllReadyIn.nil
          go_simp
          refine hK _ _ ?_
          clear hK K
          refine wpAnyIn_done (by kernel_rfl) ?_ _
          go_end0
          have y0 := hon5.cell (b := m) (by simp; omega) HNe.out 0
          have y2 := hon5.cell (b := m) (by simp; omega) HNe.out 2
          have z0 := hon5.frozen (b := m) (by simp; omega) HNe.out 0
          have z2 := hon5.frozen (b := m) (by simp; omega) HNe.out 2
          simp [go_sem, ↓IntWalk.iteOmega, Hmw0.out, Hmw2.out, Hmf0.out, Hmf2.out] at y0 y2 z0 z2
          have hOn : Only (fun k => k = m) w W5 := (HwB.out.ext ((ext_drew wq).alloc (by simp) _)).trans hon5 (fun i _ e => by cases e)
          have hs5 := hOn.size
          have hg5' : ∀ k, g5 = some k → wq.heap.size ≤ k := fun k h => by
            rcases hg5 with e | e <;> rw [e] at h
            · cases h
            · cases h; simp
          have hMG := Hm.out
          have hS : OwnS arcRep (fun _ => False) W5 ao5 cap5 g5 42 [(x1, x2)] := ⟨[arcCs (x1, x2)], ho5, .cons (arcRep_ok ⟨Hx.out.2.1, Hx.out.2.2⟩) .nil⟩
          refine ⟨rfl, ao5, cap5, g5, take_done (row := (x0, [(x1, x2)])) y0 u1 y2 z0 u2 z2 hS ?_ (by omega) (fun e => by have := hg5' m e; omega) ?_, fun k h => by have := hg5' k h; omega, hOn.setCell (fun _ => rfl) _⟩
          · exact hMG.rd.only hOn (fun h0 k off e => hMG.lne k off e h0)
          · intro b o e h0
            refine ⟨hMG.lne b o e h0, fun e2 => ?_⟩
            have := hg5' b e2
            obtain ⟨b', o', e3, hb', _⟩ := hMG.rd.pos h0
            rw [e3] at e
            cases e
            omega
        · refine AllReadyIn.cons rfl (fun K hK => ?_) AllReadyIn.nil
          go_simp
          refine hK _ _ ?_
          clear hK K
          refine wpAnyIn_take (i := 10) (v := ?_) rfl rfl (by kernel_rfl) (by kernel_rfl) (by kernel_rfl) (fun _ _ _ h => h) ⟨Or.inl ⟨by rfl, ?_⟩, fun _ => rfl⟩ ?_
          rotate_left
          · (intro w; go_simp; try (with_reducible rfl))
          refine wpAnyIn_ready (rs := [5, 11]) (by kernel_rfl) (by simp) ?_
          refine AllReadyIn.cons rfl (fun K hK => ?_) ?_
          · go_simp
            refine hK _ _ ?_
            clear hK K
            refine wpAnyIn_ready (rs := [11]) (by kernel_rfl) (by simp) ?_
            refine AllReadyIn.cons rfl (fun K hK => ?_) AllReadyIn.nil
            go_simp
            refine hK _ _ ?_
            clear hK K
            refine wpAnyIn_ready (rs := [12]) (by kernel_rfl) (by simp) ?_
            refine AllReadyIn.cons rfl (fun K hK => ?_) AllReadyIn.nil
            try rw [alloc_drew]
            refine step_appIn (fun _ => trivial) rfl (.tmp 66) (.tmp 72) 31 31 rfl hE ((HO.out.ext (ext_drew _)).alloc _) rfl rfl (srcManyE Try.underlying31 _ _ _ _ 2 _ (by simp) rfl (by simp [Value.oneCell'])) (by first | (simp [maxLen]; done) | (simp [maxLen]; omega)) (by omega) ?_
            intro ao5 cap5 g5 W5 ho5 hg5 hon5
            refine hK _ _ ?_
            clear hK K
            have u1 := hon5.cell (b := m) (by simp; omega) HNe.out 1
            have u2 := hon5.frozen (b := m) (by simp; omega) HNe.out 1
            simp [go_sem, ↓IntWalk.iteOmega, mw1, mf1] at u1 u2
            refine wpAnyIn_take (i := 13) (v := ?_) rfl rfl (by kernel_rfl) (by kernel_rfl) (by kernel_rfl) (fun _ _ _ h => h) ⟨Or.inl ⟨by rfl, ?_⟩, fun _ => rfl⟩ ?_
            rotate_left
            · (intro w; go_simp; try (with_reducible rfl))
            refine wpAnyIn_take (i := 14) (v := ?_) rfl rfl (by kernel_rfl) (by kernel_rfl) (by kernel_rfl) (fun _ _ _ h => h) ⟨Or.inl ⟨by rfl, ?_⟩, fun _ => rfl⟩ ?_
            rotate_left
            · (intro w; go_simp; try (with_reducible rfl))
            refine wpAnyIn_take (i := 15) (v := ?_) rfl rfl (by kernel_rfl) (by kernel_rfl) (by kernel_rfl) (fun _ _ _ h => h) ⟨Or.inl ⟨by rfl, ?_⟩, fun _ => rfl⟩ ?_
            rotate_left
            · (intro w; go_simp; try (with_reducible rfl))
            refine wpAnyIn_ready (rs := [16]) (by kernel_rfl) (by simp) ?_
            refine AllReadyIn.cons rfl (fun K hK => ?_) AllReadyIn.nil
            go_simp
            refine hK _ _ ?_
            clear hK K
            refine wpAnyIn_done (by kernel_rfl) ?_ _
            go_end0
            have y0 := hon5.cell (b := m) (by simp; omega) HNe.out 0
            have y2 := hon5.cell (b := m) (by simp; omega) HNe.out 2
            have z0 := hon5.frozen (b := m) (by simp; omega) HNe.out 0
            have z2 := hon5.frozen (b := m) (by simp; omega) HNe.out 2
            simp [go_sem, ↓IntWalk.iteOmega, Hmw0.out, Hmw2.out, Hmf0.out, Hmf2.out] at y0 y2 z0 z2
            have hOn : Only (fun k => k = m) w W5 := (HwB.out.ext ((ext_drew wq).alloc (by simp) _)).trans hon5 (fun i _ e => by cases e)
            have hs5 := hOn.size
            have hg5' : ∀ k, g5 = some k → wq.heap.size ≤ k := fun k h => by
              rcases hg5 with e | e <;> rw [e] at h
              · cases h
              · cases h; simp
            have hMG := Hm.out
            have hS : OwnS arcRep (fun _ => False) W5 ao5 cap5 g5 42 [(x1, x2)] := ⟨[arcCs (x1, x2)], ho5, .cons (arcRep_ok ⟨Hx.out.2.1, Hx.out.2.2⟩) .nil⟩
            refine ⟨rfl, ao5, cap5, g5, take_done (row := (x0, [(x1, x2)])) y0 u1 y2 z0 u2 z2 hS ?_ (by omega) (fun e => by have := hg5' m e; omega) ?_, fun k h => by have := hg5' k h; omega, hOn.setCell (fun _ => rfl) _⟩
            · exact hMG.rd.only hOn (fun h0 k off e => hMG.lne k off e h0)
            · intro b o e h0
              refine ⟨hMG.lne b o e h0, fun e2 => ?_⟩
              have := hg5' b e2
              obtain ⟨b', o', e3, hb', _⟩ := hMG.rd.pos h0
              rw [e3] at e
              cases e
              omega
          · refine AllReadyIn.cons rfl (fun K hK => ?_) AllReadyIn.nil
            go_simp
            refine hK _ _ ?_
            clear hK K
            refine wpAnyIn_ready (rs := [5]) (by kernel_rfl) (by simp) ?_
            refine AllReadyIn.cons rfl (fun K hK => ?_) AllReadyIn.nil
            go_simp
            refine hK _ _ ?_
            clear hK K
            refine wpAnyIn_ready (rs := [12]) (by kernel_rfl) (by simp) ?_
            refine AllReadyIn.cons rfl (fun K hK => ?_) AllReadyIn.nil
            try rw [alloc_drew]
            refine step_appIn (fun _ => trivial) rfl (.tmp 66) (.tmp 72) 31 31 rfl hE ((HO.out.ext (ext_drew _)).alloc _) rfl rfl (srcManyE Try.underlying31 _ _ _ _ 2 _ (by simp) rfl (by simp [Value.oneCell'])) (by first | (simp [maxLen]; done) | (simp [maxLen]; omega)) (by omega) ?_
            intro ao5 cap5 g5 W5 ho5 hg5 hon5
            refine hK _ _ ?_
            clear hK K
            have u1 := hon5.cell (b := m) (by simp; omega) HNe.out 1
            have u2 := hon5.frozen (b := m) (by simp; omega) HNe.out 1
            simp [go_sem, ↓IntWalk.iteOmega, mw1, mf1] at u1 u2
            refine wpAnyIn_take (i := 13) (v := ?_) rfl rfl (by kernel_rfl) (by kernel_rfl) (by kernel_rfl) (fun _ _ _ h => h) ⟨Or.inl ⟨by rfl, ?_⟩, fun _ => rfl⟩ ?_
            rotate_left
            · (intro w; go_simp; try (with_reducible rfl))
            refine wpAnyIn_take (i := 14) (v := ?_) rfl rfl (by kernel_rfl) (by kernel_rfl) (by kernel_rfl) (fun _ _ _ h => h) ⟨Or.inl ⟨by rfl, ?_⟩, fun _ => rfl⟩ ?_
            rotate_left
            · (intro w; go_simp; try (with_reducible rfl))
            refine wpAnyIn_take (i := 15) (v := ?_) rfl rfl (by kernel_rfl) (by kernel_rfl) (by kernel_rfl) (fun _ _ _ h => h) ⟨Or.inl ⟨by rfl, ?_⟩, fun _ => rfl⟩ ?_
            rotate_left
            · (intro w; go_simp; try (with_reducible rfl))
            refine wpAnyIn_ready (rs := [16]) (by kernel_rfl) (by simp) ?_
            refine AllReadyIn.cons rfl (fun K hK => ?_) AllReadyIn.nil
            go_simp
            refine hK _ _ ?_
            clear hK K
            refine wpAnyIn_done (by kernel_rfl) ?_ _
            go_end0
            have y0 := hon5.cell (b := m) (by simp; omega) HNe.out 0
            have y2 := hon5.cell (b := m) (by simp; omega) HNe.out 2
            have z0 := hon5.frozen (b := m) (by simp; omega) HNe.out 0
            have z2 := hon5.frozen (b := m) (by simp; omega) HNe.out 2
            simp [go_sem, ↓IntWalk.iteOmega, Hmw0.out, Hmw2.out, Hmf0.out, Hmf2.out] at y0 y2 z0 z2
            have hOn : Only (fun k => k = m) w W5 := (HwB.out.ext ((ext_drew wq).alloc (by simp) _)).trans hon5 (fun i _ e => by cases e)
            have hs5 := hOn.size
            have hg5' : ∀ k, g5 = some k → wq.heap.size ≤ k := fun k h => by
              rcases hg5 with e | e <;> rw [e] at h
              · cases h
              · cases h; simp
            have hMG := Hm.out
            have hS : OwnS arcRep (fun _ => False) W5 ao5 cap5 g5 42 [(x1, x2)] := ⟨[arcCs (x1, x2)], ho5, .cons (arcRep_ok ⟨Hx.out.2.1, Hx.out.2.2⟩) .nil⟩
            refine ⟨rfl, ao5, cap5, g5, take_done (row := (x0, [(x1, x2)])) y0 u1 y2 z0 u2 z2 hS ?_ (by omega) (fun e => by have := hg5' m e; omega) ?_, fun k h => by have := hg5' k h; omega, hOn.setCell (fun _ => rfl) _⟩
            · exact hMG.rd.only hOn (fun h0 k off e => hMG.lne k off e h0)
            · intro b o e h0
              refine ⟨hMG.lne b o e h0, fun e2 => ?_⟩
              have := hg5' b e2
              obtain ⟨b', o', e3, hb', _⟩ := hMG.rd.pos h0
              rw [e3] at e
              cases e
              omega
      · refine AllReadyIn.cons rfl (fun K hK => ?_) AllReadyIn.nil
        go_simp
        refine hK _ _ ?_
        clear hK K
        refine wpAnyIn_ready (rs := [5, 7]) (by kernel_rfl) (by simp) ?_
        refine AllReadyIn.cons rfl (fun K hK => ?_) ?_
        · go_simp
          refine hK _ _ ?_
          clear hK K
          refine wpAnyIn_ready (rs := [7]) (by kernel_rfl) (by simp) ?_
          refine AllReadyIn.cons rfl (fun K hK => ?_) AllReadyIn.nil
          go_simp
          refine hK _ _ ?_
          clear hK K
          refine wpAnyIn_take (i := 10) (v := ?_) rfl rfl (by kernel_rfl) (by kernel_rfl) (by kernel_rfl) (fun _ _ _ h => h) ⟨Or.inl ⟨by rfl, ?_⟩, fun _ => rfl⟩ ?_
          rotate_left
          · (intro w; go_simp; try (with_reducible rfl))
          refine wpAnyIn_ready (rs := [11]) (by kernel_rfl) (by simp) ?_
          refine AllReadyIn.cons rfl (fun K hK => ?_) AllReadyIn.nil
          go_simp
          refine hK _ _ ?_
          clear hK K
          refine wpAnyIn_ready (rs := [12]) (by kernel_rfl) (by simp) ?_
          refine AllReadyIn.cons rfl (fun K hK => ?_) AllReadyIn.nil
          try rw [alloc_drew]
          refine step_appIn (fun _ => trivial) rfl (.tmp 66) (.tmp 72) 31 31 rfl hE ((HO.out.ext (ext_drew _)).alloc _) rfl rfl (srcManyE Try.underlying31 _ _ _ _ 2 _ (by simp) rfl (by simp [Value.oneCell'])) (by first | (simp [maxLen]; done) | (simp [maxLen]; omega)) (by omega) ?_
          intro ao5 cap5 g5 W5 ho5 hg5 hon5
          refine hK _ _ ?_
          clear hK K
          have u1 := hon5.cell (b := m) (by simp; omega) HNe.out 1
          have u2 := hon5.frozen (b := m) (by simp; omega) HNe.out 1
          simp [go_sem, ↓IntWalk.iteOmega, mw1, mf1] at u1 u2
          refine wpAnyIn_take (i := 13) (v := ?_) rfl rfl (by kernel_rfl) (by kernel_rfl) (by kernel_rfl) (fun _ _ _ h => h) ⟨Or.inl ⟨by rfl, ?_⟩, fun _ => rfl⟩ ?_
          rotate_left
          · (intro w; go_simp; try (with_reducible rfl))
          refine wpAnyIn_take (i := 14) (v := ?_) rfl rfl (by kernel_rfl) (by kernel_rfl) (by kernel_rfl) (fun _ _ _ h => h) ⟨Or.inl ⟨by rfl, ?_⟩, fun _ => rfl⟩ ?_
          rotate_left
          · (intro w; go_simp; try (with_reducible rfl))
          refine wpAnyIn_take (i := 15) (v := ?_) rfl rfl (by kernel_rfl) (by kernel_rfl) (by kernel_rfl) (fun _ _ _ h => h) ⟨Or.inl ⟨by rfl, ?_⟩, fun _ => rfl⟩ ?_
          rotate_left
          · (intro w; go_simp; try (with_reducible rfl))
          refine wpAnyIn_ready (rs := [16]) (by kernel_rfl) (by simp) ?_
          refine AllReadyIn.cons rfl (fun K hK => ?_) AllReadyIn.nil
          go_simp
          refine hK _ _ ?_
          clear hK K
          refine wpAnyIn_done (by kernel_rfl) ?_ _
          go_end0
          have y0 := hon5.cell (b := m) (by simp; omega) HNe.out 0
          have y2 := hon5.cell (b := m) (by simp; omega) HNe.out 2
          have z0 := hon5.frozen (b := m) (by simp; omega) HNe.out 0
          have z2 := hon5.frozen (b := m) (by simp; omega) HNe.out 2
          simp [go_sem, ↓IntWalk.iteOmega, Hmw0.out, Hmw2.out, Hmf0.out, Hmf2.out] at y0 y2 z0 z2
          have hOn : Only (fun k => k = m) w W5 := (HwB.out.ext ((ext_drew wq).alloc (by simp) _)).trans hon5 (fun i _ e => by cases e)
          have hs5 := hOn.size
          have hg5' : ∀ k, g5 = some k → wq.heap.size ≤ k := fun k h => by
            rcases hg5 with e | e <;> rw [e] at h
            · cases h
            · cases h; simp
          have hMG := Hm.out
          have hS : OwnS arcRep (fun _ => False) W5 ao5 cap5 g5 42 [(x1, x2)] := ⟨[arcCs (x1, x2)], ho5, .cons (arcRep_ok ⟨Hx.out.2.1, Hx.out.2.2⟩) .nil⟩
          refine ⟨rfl, ao5, cap5, g5, take_done (row := (x0, [(x1, x2)])) y0 u1 y2 z0 u2 z2 hS ?_ (by omega) (fun e => by have := hg5' m e; omega) ?_, fun k h => by have := hg5' k h; omega, hOn.setCell (fun _ => rfl) _⟩
          · exact hMG.rd.only hOn (fun h0 k off e => hMG.lne k off e h0)
          · intro b o e h0
            refine ⟨hMG.lne b o e h0, fun e2 => ?_⟩
            have := hg5' b e2
            obtain ⟨b', o', e3, hb', _⟩ := hMG.rd.pos h0
            rw [e3] at e
            cases e
            omega
        · refine AllReadyIn.cons rfl (fun K hK => ?_) AllReadyIn.nil
          go_simp
          refine hK _ _ ?_
          clear hK K
          refine wpAnyIn_take (i := 10) (v := ?_) rfl rfl (by kernel_rfl) (by kernel_rfl) (by kernel_rfl) (fun _ _ _ h => h) ⟨Or.inl ⟨by rfl, ?_⟩, fun _ => rfl⟩ ?_
          rotate_left
          · (intro w; go_simp; try (with_reducible rfl))
          refine wpAnyIn_ready (rs := [5, 11]) (by kernel_rfl) (by simp) ?_
          refine AllReadyIn.cons rfl (fun K hK => ?_) ?_
          · go_simp
            refine hK _ _ ?_
            clear hK K
            refine wpAnyIn_ready (rs := [11]) (by kernel_rfl) (by simp) ?_
            refine AllReadyIn.cons rfl (fun K hK => ?_) AllReadyIn.nil
            go_simp
            refine hK _ _ ?_
            clear hK K
            refine wpAnyIn_ready (rs := [12]) (by kernel_rfl) (by simp) ?_
            refine AllReadyIn.cons rfl (fun K hK => ?_) AllReadyIn.nil
            try rw [alloc_drew]
            refine step_appIn (fun _ => trivial) rfl (.tmp 66) (.tmp 72) 31 31 rfl hE ((HO.out.ext (ext_drew _)).alloc _) rfl rfl (srcManyE Try.underlying31 _ _ _ _ 2 _ (by simp) rfl (by simp [Value.oneCell'])) (by first | (simp [maxLen]; done) | (simp [maxLen]; omega)) (by omega) ?_
            intro ao5 cap5 g5 W5 ho5 hg5 hon5
            refine hK _ _ ?_
            clear hK K
            have u1 := hon5.cell (b := m) (by simp; omega) HNe.out 1
            have u2 := hon5.frozen (b := m) (by simp; omega) HNe.out 1
            simp [go_sem, ↓IntWalk.iteOmega, mw1, mf1] at u1 u2
            refine wpAnyIn_take (i := 13) (v := ?_) rfl rfl (by kernel_rfl) (by kernel_rfl) (by kernel_rfl) (fun _ _ _ h => h) ⟨Or.inl ⟨by rfl, ?_⟩, fun _ => rfl⟩ ?_
            rotate_left
            · (intro w; go_simp; try (with_reducible rfl))
            refine wpAnyIn_take (i := 14) (v := ?_) rfl rfl (by kernel_rfl) (by kernel_rfl) (by kernel_rfl) (fun _ _ _ h => h) ⟨Or.inl ⟨by rfl, ?_⟩, fun _ => rfl⟩ ?_
            rotate_left
            · (intro w; go_simp; try (with_reducible rfl))
            refine wpAnyIn_take (i := 15) (v := ?_) rfl rfl (by kernel_rfl) (by kernel_rfl) (by kernel_rfl) (fun _ _ _ h => h) ⟨Or.inl ⟨by rfl, ?_⟩, fun _ => rfl⟩ ?_
            rotate_left
            · (intro w; go_simp; try (with_reducible rfl))
            refine wpAnyIn_ready (rs := [16]) (by kernel_rfl) (by simp) ?_
            refine AllReadyIn.cons rfl (fun K hK => ?_) AllReadyIn.nil
            go_simp
            refine hK _ _ ?_
            clear hK K
            refine wpAnyIn_done (by kernel_rfl) ?_ _
            go_end0
            have y0 := hon5.cell (b := m) (by simp; omega) HNe.out 0
            have y2 := hon5.cell (b := m) (by simp; omega) HNe.out 2
            have z0 := hon5.frozen (b := m) (by simp; omega) HNe.out 0
            have z2 := hon5.frozen (b := m) (by simp; omega) HNe.out 2
            simp [go_sem, ↓IntWalk.iteOmega, Hmw0.out, Hmw2.out, Hmf0.out, Hmf2.out] at y0 y2 z0 z2
            have hOn : Only (fun k => k = m) w W5 := (HwB.out.ext ((ext_drew wq).alloc (by simp) _)).trans hon5 (fun i _ e => by cases e)
            have hs5 := hOn.size
            have hg5' : ∀ k, g5 = some k → wq.heap.size ≤ k := fun k h => by
              rcases hg5 with e | e <;> rw [e] at h
              · cases h
              · cases h; simp
            have hMG := Hm.out
            have hS : OwnS arcRep (fun _ => False) W5 ao5 cap5 g5 42 [(x1, x2)] := ⟨[arcCs (x1, x2)], ho5, .cons (arcRep_ok ⟨Hx.out.2.1, Hx.out.2.2⟩) .nil⟩
            refine ⟨rfl, ao5, cap5, g5, take_done (row := (x0, [(x1, x2)])) y0 u1 y2 z0 u2 z2 hS ?_ (by omega) (fun e => by have := hg5' m e; omega) ?_, fun k h => by have := hg5' k h; omega, hOn.setCell (fun _ => rfl) _⟩
            · exact hMG.rd.only hOn (fun h0 k off e => hMG.lne k off e h0)
            · intro b o e h0
              refine ⟨hMG.lne b o e h0, fun e2 => ?_⟩
              have := hg5' b e2
              obtain ⟨b', o', e3, hb', _⟩ := hMG.rd.pos h0
              rw [e3] at e
              cases e
              omega
          · refine AllReadyIn.cons rfl (fun K hK => ?_) AllReadyIn.nil
            go_simp
            refine hK _ _ ?_
            clear hK K
            refine wpAnyIn_ready (rs := [5]) (by kernel_rfl) (by simp) ?_
            refine AllReadyIn.cons rfl (fun K hK => ?_) AllReadyIn.nil
            go_simp
            refine hK _ _ ?_
            clear hK K
            refine wpAnyIn_ready (rs := [12]) (by kernel_rfl) (by simp) ?_
            refine AllReadyIn.cons rfl (fun K hK => ?_) AllReadyIn.nil
            try rw [alloc_drew]
            refine step_appIn (fun _ => trivial) rfl (.tmp 66) (.tmp 72) 31 31 rfl hE ((HO.out.ext (ext_drew _)).alloc _) rfl rfl (srcManyE Try.underlying31 _ _ _ _ 2 _ (by simp) rfl (by simp [Value.oneCell'])) (by first | (simp [maxLen]; done) | (simp [maxLen]; omega)) (by omega) ?_
            intro ao5 cap5 g5 W5 ho5 hg5 hon5
            refine hK _ _ ?_
            clear hK K
            have u1 := hon5.cell (b := m) (by simp; omega) HNe.out 1
            have u2 := hon5.frozen (b := m) (by simp; omega) HNe.out 1
            simp [go_sem, ↓IntWalk.iteOmega, mw1, mf1] at u1 u2
            refine wpAnyIn_take (i := 13) (v := ?_) rfl rfl (by kernel_rfl) (by kernel_rfl) (by kernel_rfl) (fun _ _ _ h => h) ⟨Or.inl ⟨by rfl, ?_⟩, fun _ => rfl⟩ ?_
            rotate_left
            · (intro w; go_simp; try (with_reducible rfl))
            refine wpAnyIn_take (i := 14) (v := ?_) rfl rfl (by kernel_rfl) (by kernel_rfl) (by kernel_rfl) (fun _ _ _ h => h) ⟨Or.inl ⟨by rfl, ?_⟩, fun _ => rfl⟩ ?_
            rotate_left
            · (intro w; go_simp; try (with_reducible rfl))
            refine wpAnyIn_take (i := 15) (v := ?_) rfl rfl (by kernel_rfl) (by kernel_rfl) (by kernel_rfl) (fun _ _ _ h => h) ⟨Or.inl ⟨by rfl, ?_⟩, fun _ => rfl⟩ ?_
            rotate_left
            · (intro w; go_simp; try (with_reducible rfl))
            refine wpAnyIn_ready (rs := [16]) (by kernel_rfl) (by simp) ?_
            refine AllReadyIn.cons rfl (fun K hK => ?_) AllReadyIn.nil
            go_simp
            refine hK _ _ ?_
            clear hK K
            refine wpAnyIn_done (by kernel_rfl) ?_ _
            go_end0
            have y0 := hon5.cell (b := m) (by simp; omega) HNe.out 0
            have y2 := hon5.cell (b := m) (by simp; omega) HNe.out 2
            have z0 := hon5.frozen (b := m) (by simp; omega) HNe.out 0
            have z2 := hon5.frozen (b := m) (by simp; omega) HNe.out 2
            simp [go_sem, ↓IntWalk.iteOmega, Hmw0.out, Hmw2.out, Hmf0.out, Hmf2.out] at y0 y2 z0 z2
            have hOn : Only (fun k => k = m) w W5 := (HwB.out.ext ((ext_drew wq).alloc (by simp) _)).trans hon5 (fun i _ e => by cases e)
            have hs5 := hOn.size
            have hg5' : ∀ k, g5 = some k → wq.heap.size ≤ k := fun k h => by
              rcases hg5 with e | e <;> rw [e] at h
              · cases h
              · cases h; simp
            have hMG := Hm.out
            have hS : OwnS arcRep (fun _ => False) W5 ao5 cap5 g5 42 [(x1, x2)] := ⟨[arcCs (x1, x2)], ho5, .cons (arcRep_ok ⟨Hx.out.2.1, Hx.out.2.2⟩) .nil⟩
            refine ⟨rfl, ao5, cap5, g5, take_done (row := (x0, [(x1, x2)])) y0 u1 y2 z0 u2 z2 hS ?_ (by omega) (fun e => by have := hg5' m e; omega) ?_, fun k h => by have := hg5' k h; omega, hOn.setCell (fun _ => rfl) _⟩
            · exact hMG.rd.only hOn (fun h0 k off e => hMG.lne k off e h0)
            · intro b o e h0
              refine ⟨hMG.lne b o e h0, fun e2 => ?_⟩
              have := hg5' b e2
              obtain ⟨b', o', e3, hb', _⟩ := hMG.rd.pos h0
              rw [e3] at e
              cases e
              omega
end Go.Proofs.Ytlgnpogmgpgdaaa

namespace Go.Proofs.Ytlgnpogmgpgdaaa
set_option linter.unusedSimpArgs false
set_option linter.unusedVariables false
set_option maxRecDepth 100000
open Go.RowKit

/-- one cell of what is owned -/
theorem Own.setOne {w : World} {b cap n size : Nat} {e : TypeId} {xs : List Value} (h : Own w (some ⟨b, 0, none⟩) cap (some b) e size n xs) (j : Nat) (v : Value) :
    Own (w.setCell ⟨b, j, none⟩ v) (some ⟨b, 0, none⟩) cap (some b) e size n (xs.set j v) := by
  refine ⟨by rw [List.length_set]; exact h.1, ?_⟩
  rcases h.2 with ⟨h1, _⟩ | ⟨b', cur, hg, ha, hh, hn, hc, hs, ht⟩
  · cases h1
  · cases hg
    refine .inr ⟨b, cur.setIfInBounds j v, rfl, rfl, ?_, hn, hc, by simpa using hs, ?_⟩
    · show (w.heap.modify b _)[b]? = _
      rw [Array.getElem?_modify, if_pos rfl, hh]
      rfl
    · rw [Array.toList_setIfInBounds, ← ht, List.take_set]
theorem OwnS.arcAdd {w : World} {b cap : Nat} {e : TypeId} {l : List ArcD} {t y z : Nat} (h : OwnS arcRep (fun _ => False) w (some ⟨b, 0, none⟩) cap (some b) e (l ++ [(t, y)])) (hz : z < 4294967296) :
    OwnS arcRep (fun _ => False) (w.setCell ⟨b, l.length * 2 + 1, none⟩ (.int .u32 (z : Nat))) (some ⟨b, 0, none⟩) cap (some b) e (l ++ [(t, z)]) := by
  obtain ⟨css, ho, ha⟩ := h
  obtain ⟨m, cs, rfl, h1, h2⟩ := all2_snoc ha
  obtain ⟨c, d, rfl, ⟨rfl, ht⟩, ⟨rfl, hy⟩⟩ := h2
  have hl1 : m.flatten.length = l.length * 2 := all2_len h1
  refine ⟨m ++ [arcCs (t, z)], ?_, all2_append (forall2_imp (fun x ds h => arcRep.keep h (fun _ hb => hb.elim) (by simp)) h1) (.cons (arcRep_ok ⟨ht, hz⟩) .nil)⟩
  have h5 := ho.setOne (l.length * 2 + 1) (.int .u32 (z : Nat))
  have e1 : (m ++ [[Value.int .u32 (t : Nat)] ++ [Value.int .u32 (y : Nat)]]).flatten.set (l.length * 2 + 1) (.int .u32 (z : Nat)) = (m ++ [arcCs (t, z)]).flatten := by
    rw [List.flatten_append, List.flatten_append, List.set_append_right _ _ (by omega), hl1, show l.length * 2 + 1 - l.length * 2 = 1 by omega]
    rfl
  rw [← e1]
  simpa using h5
theorem MG.arcAdd {m fr : Nat} {A : List ArcD} {t y z : Nat} {last : List UInt8} {b cap : Nat} {lo : Option Addr} {lc : Nat} {w : World} (h : MG m (fr, A ++ [(t, y)]) last (some ⟨b, 0, none⟩) cap (some b) lo lc w) (hz : z < 4294967296) :
    MG m (fr, A ++ [(t, z)]) last (some ⟨b, 0, none⟩) cap (some b) lo lc (w.setCell ⟨b, A.length * 2 + 1, none⟩ (.int .u32 (z : Nat))) := by
  have hbm : b ≠ m := fun e => h.ne (by rw [e])
  have hmb : m ≠ b := fun e => hbm e.symm
  refine ⟨?_, ?_, ?_, (World.frozen?_setCell ..).trans h.f0, (World.frozen?_setCell ..).trans h.f1, (World.frozen?_setCell ..).trans h.f2, h.own.arcAdd hz, ?_, by simpa using h.lt, h.ne, h.lne⟩
  · rw [World.cell?_setCell_other _ _ _ _ (by simp [hmb])]; exact h.c0
  · rw [World.cell?_setCell_other _ _ _ _ (by simp [hmb])]; have := h.c1; simpa using this
  · rw [World.cell?_setCell_other _ _ _ _ (by simp [hmb])]; exact h.c2
  · exact h.rd.only ((Only.refl (fun k => k = b) w).setCell (p := ⟨b, A.length * 2 + 1, none⟩) (fun _ => rfl) _) (fun h0 k off e hk => (h.lne k off e h0).2 (by rw [hk]))
theorem takeM_same {row : RowD} {x : EdgeD} (h : sameRow row x) {A : List ArcD} {t y : Nat} (ha : row.2 = A ++ [(t, y)]) : mtakeM row x = if t = x.2.1 then (row.1, A ++ [(t, y + x.2.2)]) else (row.1, row.2 ++ [(x.2.1, x.2.2)]) := by
  unfold mtakeM
  rw [if_pos h]
  unfold addArc
  rw [ha]
  simp only [List.getLast?_concat, List.dropLast_concat]
  split <;> rfl

set_option maxRecDepth 100000 in
set_option maxHeartbeats 3200000 in
theorem take_same (m : Nat) (row : RowD) (last : List UInt8) (ao : Option Addr) (cap : Nat) (g : Option Nat) (lo : Option Addr) (lc : Nat) (x : EdgeD) (w : World) (h : MG m row last ao cap g lo lc w) (hx : okE x) (hlen : row.2.length ≤ 1073741824)
    (hleft : x.2.2 ≤ leftOf row x) (hs : sameRow row x) (hsm : sumA row.2 ≤ 2147483647) :
    Calls Try.prog 124 #[.pointer (some ⟨m, 0, none⟩), edgeV x] w fun e w' => e = .returned (.tuple #[]) ∧ ∃ ao' cap' g', MG m (mtakeM row x) last ao' cap' g' lo lc w' ∧ (∀ k, g' = some k → g = some k ∨ w.heap.size ≤ k) ∧ Only (fun k => k = m ∨ g = some k) w w' := by
  have hE := arcElem
  have hFull := fun (W : World) (hB : Below w.heap.size w W) => full_any m row last ao cap lo lc x W (h.ext hB).toH
  have hfb : fullB row x = false := by
    unfold fullB
    simp [hs.2]
  rw [hfb] at hFull
  obtain ⟨A, ⟨t, y⟩, ha⟩ : ∃ A a, row.2 = A ++ [a] := ⟨row.2.dropLast, row.2.getLast (fun e => by have := hs.1; rw [e] at this; simp at this), (List.dropLast_concat_getLast _).symm⟩
  have htk := takeM_same hs ha
  have hsum : y + x.2.2 ≤ 2147483647 := by
    unfold leftOf at hleft
    rw [if_pos hs, ha] at hleft
    rw [ha] at hsm
    unfold sumA at hleft hsm
    rw [List.map_append, List.sum_append] at hleft hsm
    simp at hleft hsm
    omega
  rw [htk]
  obtain ⟨x0, x1, x2⟩ := x
  obtain ⟨fr, arcs⟩ := row
  simp only at ha hlen hsum hs
  subst ha
  obtain rfl : fr = x0 := hs.2
  obtain ⟨b, rfl, rfl, hbw⟩ : ∃ b, g = some b ∧ ao = some ⟨b, 0, none⟩ ∧ b < w.heap.size := by
    obtain ⟨css, ho, _⟩ := h.own
    exact ho.pos (by simp)
  obtain ⟨b', off', hbb, _, ca0', ca1', hoka⟩ := h.own.rd.arc A.length (by simp)
  cases hbb
  simp only [edgeV] at hFull ⊢
  have Hm := Lib.hid h
  have HFull := Lib.hid hFull
  have hmlt := h.lt
  have mc0 := h.c0
  have mc1 := h.c1
  have mf0 := h.f0
  have mf1 := h.f1
  have mc2 := h.c2
  have mf2 := h.f2
  have Hx := Lib.hid hx
  simp at mc0 mc1 ca0' ca1' hlen
  have hbm : b ≠ m := fun e => h.ne (by rw [e])
  have hmw : ¬ m = w.heap.size := by omega
  have hmw2 : ¬ w.heap.size = m := by omega
  generalize hk : A.length = k at mc1 ca0' ca1' hlen
  have Hk := Lib.hid hk
  obtain ⟨fa, _⟩ : (w.frozen? ⟨b, k * 2 + 1, none⟩ = false) ∧ True := by
    obtain ⟨css, ho, _⟩ := h.own
    exact ⟨ho.frozen _, trivial⟩
  clear hFull h htk hk hfb hleft hs hoka hx
  have hd0 : ((k : Int) + 1 == 0) = false := by simp; omega
  have hd : decide ((0 : Int) < (k : Int) + 1) = true := decide_eq_true (by omega)
  have hd' : decide (0 < k + 1) = true := decide_eq_true (by omega)
  by_cases hq : t = x1
  · have hq' : ((t : Int) == (x1 : Int)) = true := by simp [hq]
    rw [if_pos hq]
    clear hq
    go_enter Try.func124, Try.ntmps124
    go_wp2_with (go_at_call 123; refine (HFull.out _ (ext_alloc w _)).mono ?_; rintro e w2 ⟨rfl, hB2⟩; have e0 := ((bcell hB2).1 w.heap.size 0 (by simp)).trans (show _ = some (Value.int .u32 (fr : Nat)) by simp [go_sem]); have e1 := ((bcell hB2).1 w.heap.size 1 (by simp)).trans (show _ = some (Value.int .u32 (x1 : Nat)) by simp [go_sem]); have e2 := ((bcell hB2).1 w.heap.size 2 (by simp)).trans (show _ = some (Value.int .u32 (x2 : Nat)) by simp [go_sem]); have mc0 := ((bcell ((ext_alloc w _).trans (hB2.mono (by simp)))).1 m 0 hmlt).trans mc0; have mc1 := ((bcell ((ext_alloc w _).trans (hB2.mono (by simp)))).1 m 1 hmlt).trans mc1; have mf0 := ((bcell ((ext_alloc w _).trans (hB2.mono (by simp)))).2 m 0 hmlt).trans mf0; have mf1 := ((bcell ((ext_alloc w _).trans (hB2.mono (by simp)))).2 m 1 hmlt).trans mf1; have mc2 := ((bcell ((ext_alloc w _).trans (hB2.mono (by simp)))).1 m 2 hmlt).trans mc2; have mf2 := ((bcell ((ext_alloc w _).trans (hB2.mono (by simp)))).2 m 2 hmlt).trans mf2; have hz2 := hB2.size; have ca0 := ((bcell ((ext_alloc w _).trans (hB2.mono (by simp)))).1 b _ hbw).trans ca0'; have fa := ((bcell ((ext_alloc w _).trans (hB2.mono (by simp)))).2 b _ hbw).trans fa; have ca1 := ((bcell ((ext_alloc w _).trans (hB2.mono (by simp)))).1 b _ hbw).trans ca1'; simp at hz2; have HB2 := Lib.hid hB2; clear hB2)
    go_quiet (fail)
    go_wp2_with fail
    obtain ⟨wq, hwq⟩ : ∃ x, w2.drewN nq = x := ⟨_, rfl⟩
    have hwB : Below w.heap.size w wq := by
      rw [← hwq]
      exact below_drewN ((ext_alloc w _).trans (HB2.out.mono (by simp))) _
    have mw0 : wq.cell? ⟨m, 0, none⟩ = some (.int .u32 (fr : Nat)) := by rw [← hwq]; simp [go_sem, mc0]
    have mw1 : wq.cell? ⟨m, 1, none⟩ = some (.slice (some ⟨b, 0, none⟩) (k + 1) cap) := by rw [← hwq]; simp [go_sem, mc1]
    have mf1 : wq.frozen? ⟨m, 1, none⟩ = false := by rw [← hwq]; simp [go_sem, mf1]
    have e1 : wq.cell? ⟨w.heap.size, 1, none⟩ = some (.int .u32 (x1 : Nat)) := by rw [← hwq]; simp [go_sem, e1]
    have e2 : wq.cell? ⟨w.heap.size, 2, none⟩ = some (.int .u32 (x2 : Nat)) := by rw [← hwq]; simp [go_sem, e2]
    have ca1 : wq.cell? ⟨b, k * 2 + 1, none⟩ = some (.int .u32 (y : Nat)) := by rw [← hwq]; simp [go_sem, ca1]
    have fa : wq.frozen? ⟨b, k * 2 + 1, none⟩ = false := by rw [← hwq]; simp [go_sem, fa]
    have hzq : w.heap.size + 1 ≤ wq.heap.size := by rw [← hwq]; simpa using hz2
    have mw2 : wq.cell? ⟨m, 2, none⟩ = some (.slice lo last.length lc) := by rw [← hwq]; simp [go_sem, mc2]
    have mf0q : wq.frozen? ⟨m, 0, none⟩ = false := by rw [← hwq]; simp [go_sem, mf0]
    have mf2q : wq.frozen? ⟨m, 2, none⟩ = false := by rw [← hwq]; simp [go_sem, mf2]
    have HwB := Lib.hid hwB
    rw [hwq]
    clear hwq hwB mc0 mc1 mc2 mf0 mf2 e0 ca0
    have hkw : IntKind.i64.wrap (k : Int) = (k : Int) := IntWalk.i64_in _ (by omega)
    have hk0 : (0 : Int) ≤ (k : Int) := by omega
    have hk1 : (k : Int) < (k : Int) + 1 := by omega
    refine (wpIn_wide (n := 0)).1 ?_
    refine wpIn_region_any (by kernel_rfl) ?_
    change wpAnyIn _ _ _ _ _ _ _ _ _ (World.drew _)
    refine wpAnyIn_take (i := 0) (v := ?_) rfl rfl (by kernel_rfl) (by kernel_rfl) (by kernel_rfl) (fun _ _ _ h => h) ⟨Or.inl ⟨by rfl, ?_⟩, fun _ => rfl⟩ ?_
    rotate_left
    · (intro w; go_simp; try (with_reducible rfl))
    refine wpAnyIn_take (i := 1) (v := ?_) rfl rfl (by kernel_rfl) (by kernel_rfl) (by kernel_rfl) (fun _ _ _ h => h) ⟨Or.inl ⟨by rfl, ?_⟩, fun _ => rfl⟩ ?_
    rotate_left
    · (intro w; go_simp; try (with_reducible rfl))
    refine wpAnyIn_take (i := 2) (v := ?_) rfl rfl (by kernel_rfl) (by kernel_rfl) (by kernel_rfl) (fun _ _ _ h => h) ⟨Or.inl ⟨by rfl, ?_⟩, fun _ => rfl⟩ ?_
    rotate_left
    · (intro w; go_simp; try (with_reducible rfl))
    refine wpAnyIn_take (i := 3) (v := ?_) rfl rfl (by kernel_rfl) (by kernel_rfl) (by kernel_rfl) (fun _ _ _ h => h) ⟨Or.inl ⟨by rfl, ?_⟩, fun _ => rfl⟩ ?_
    rotate_left
    · (intro w; go_simp; try (with_reducible rfl))
    refine wpAnyIn_take (i := 5) (v := ?_) rfl rfl (by kernel_rfl) (by kernel_rfl) (by kernel_rfl) (fun _ _ _ h => h) ⟨Or.inl ⟨by rfl, ?_⟩, fun _ => rfl⟩ ?_
    rotate_left
    · (intro w; go_simp; try (with_reducible rfl))
    refine wpAnyIn_take (i := 6) (v := ?_) rfl rfl (by kernel_rfl) (by kernel_rfl) (by kernel_rfl) (fun _ _ _ h => h) ⟨Or.inl ⟨by rfl, ?_⟩, fun _ => rfl⟩ ?_
    rotate_left
    · (intro w; go_simp; try (with_reducible rfl))
    refine wpAnyIn_take (i := 10) (v := ?_) rfl rfl (by kernel_rfl) (by kernel_rfl) (by kernel_rfl) (fun _ _ _ h => h) ⟨Or.inl ⟨by rfl, ?_⟩, fun _ => rfl⟩ ?_
    rotate_left
    · (intro w; go_simp; try (with_reducible rfl))
    refine wpAnyIn_ready (rs := [4, 11]) (by kernel_rfl) (by simp) ?_
    refine AllReadyIn.cons rfl (fun K hK => ?_) ?_
    · go_simp
      refine hK _ _ ?_
      clear hK K
      refine wpAnyIn_take (i := 7) (v := ?_) rfl rfl (by kernel_rfl) (by kernel_rfl) (by kernel_rfl) (fun _ _ _ h => h) ⟨Or.inl ⟨by rfl, ?_⟩, fun _ => rfl⟩ ?_
      rotate_left
      · (intro w; go_simp; try (with_reducible rfl))
      refine wpAnyIn_take (i := 8) (v := ?_) rfl rfl (by kernel_rfl) (by kernel_rfl) (by kernel_rfl) (fun _ _ _ h => h) ⟨Or.inl ⟨by rfl, ?_⟩, fun _ => rfl⟩ ?_
      rotate_left
      · (intro w; go_simp; try (with_reducible rfl))
      refine wpAnyIn_ready (rs := [9, 11]) (by kernel_rfl) (by simp) ?_
      refine AllReadyIn.cons rfl (fun K hK => ?_) ?_
      · go_simp
        refine hK _ _ ?_
        clear hK K
        refine wpAnyIn_ready (rs := [11]) (by kernel_rfl) (by simp) ?_
        refine AllReadyIn.cons rfl (fun K hK => ?_) AllReadyIn.nil
        go_simp
        refine hK _ _ ?_
        clear hK K
        refine wpAnyIn_take (i := 12) (v := ?_) rfl rfl (by kernel_rfl) (by kernel_rfl) (by kernel_rfl) (fun _ _ _ h => h) ⟨Or.inl ⟨by rfl, ?_⟩, fun _ => rfl⟩ ?_
        rotate_left
        · (intro w; go_simp; try (with_reducible rfl))
        refine wpAnyIn_take (i := 13) (v := ?_) rfl rfl (by kernel_rfl) (by kernel_rfl) (by kernel_rfl) (fun _ _ _ h => h) ⟨Or.inl ⟨by rfl, ?_⟩, fun _ => rfl⟩ ?_
        rotate_left
        · (intro w; go_simp; try (with_reducible rfl))
        refine wpAnyIn_take (i := 14) (v := ?_) rfl rfl (by kernel_rfl) (by kernel_rfl) (by kernel_rfl) (fun _ _ _ h => h) ⟨Or.inl ⟨by rfl, ?_⟩, fun _ => rfl⟩ ?_
        rotate_left
        · (intro w; go_simp; try (with_reducible rfl))
        refine wpAnyIn_ready (rs := [15]) (by kernel_rfl) (by simp) ?_
        refine AllReadyIn.cons rfl (fun K hK => ?_) AllReadyIn.nil
        go_simp
        refine hK _ _ ?_
        clear hK K
        refine wpAnyIn_done (by kernel_rfl) ?_ _
        go_wp2
        refine bodyPost_ret (v := .tuple #[]) (results_none rfl _ _ _) rfl ⟨rfl, some ⟨b, 0, none⟩, cap, some b, ?_, fun _ h => .inl h, ?_⟩
        · have e := (Hm.out.ext HwB.out).arcAdd (z := y + x2) (by omega)
          rw [Hk.out, Int.natCast_add] at e
          rw [show IntKind.u32.wrap ((y : Int) + (x2 : Int)) = (y : Int) + (x2 : Int) from IntWalk.u32_in _ (by omega)]
          exact e.ext (ext_drew _)
        · exact ((Only.of_below HwB.out).setCell (fun _ => .inr rfl) _).drew
      · refine AllReadyIn.cons rfl (fun K hK => ?_) AllReadyIn.nil
        go_simp
        refine hK _ _ ?_
        clear hK K
        refine wpAnyIn_ready (rs := [9]) (by kernel_rfl) (by simp) ?_
        refine AllReadyIn.cons rfl (fun K hK => ?_) AllReadyIn.nil
        go_simp
        refine hK _ _ ?_
        clear hK K
        refine wpAnyIn_take (i := 12) (v := ?_) rfl rfl (by kernel_rfl) (by kernel_rfl) (by kernel_rfl) (fun _ _ _ h => h) ⟨Or.inl ⟨by rfl, ?_⟩, fun _ => rfl⟩ ?_
        rotate_left
        · (intro w; go_simp; try (with_reducible rfl))
        refine wpAnyIn_take (i := 13) (v := ?_) rfl rfl (by kernel_rfl) (by kernel_rfl) (by kernel_rfl) (fun _ _ _ h => h) ⟨Or.inl ⟨by rfl, ?_⟩, fun _ => rfl⟩ ?_
        rotate_left
        · (intro w; go_simp; try (with_reducible rfl))
        refine wpAnyIn_take (i := 14) (v := ?_) rfl rfl (by kernel_rfl) (by kernel_rfl) (by kernel_rfl) (fun _ _ _ h => h) ⟨Or.inl ⟨by rfl, ?_⟩, fun _ => rfl⟩ ?_
        rotate_left
        · (intro w; go_simp; try (with_reducible rfl))
        refine wpAnyIn_ready (rs := [15]) (by kernel_rfl) (by simp) ?_
        refine AllReadyIn.cons rfl (fun K hK => ?_) AllReadyIn.nil
        go_simp
        refine hK _ _ ?_
        clear hK K
        refine wpAnyIn_done (by kernel_rfl) ?_ _
        go_wp2
        refine bodyPost_ret (v := .tuple #[]) (results_none rfl _ _ _) rfl ⟨rfl, some ⟨b, 0, none⟩, cap, some b, ?_, fun _ h => .inl h, ?_⟩
        · have e := (Hm.out.ext HwB.out).arcAdd (z := y + x2) (by omega)
          rw [Hk.out, Int.natCast_add] at e
          rw [show IntKind.u32.wrap ((y : Int) + (x2 : Int)) = (y : Int) + (x2 : Int) from IntWalk.u32_in _ (by omega)]
          exact e.ext (ext_drew _)
        · exact ((Only.of_below HwB.out).setCell (fun _ => .inr rfl) _).drew
    · refine AllReadyIn.cons rfl (fun K hK => ?_) AllReadyIn.nil
      go_simp
      refine hK _ _ ?_
      clear hK K
      refine wpAnyIn_ready (rs := [4]) (by kernel_rfl) (by simp) ?_
      refine AllReadyIn.cons rfl (fun K hK => ?_) AllReadyIn.nil
      go_simp
      refine hK _ _ ?_
      clear hK K
      refine wpAnyIn_take (i := 7) (v := ?_) rfl rfl (by kernel_rfl) (by kernel_rfl) (by kernel_rfl) (fun _ _ _ h => h) ⟨Or.inl ⟨by rfl, ?_⟩, fun _ => rfl⟩ ?_
      rotate_left
      · (intro w; go_simp; try (with_reducible rfl))
      refine wpAnyIn_take (i := 8) (v := ?_) rfl rfl (by kernel_rfl) (by kernel_rfl) (by kernel_rfl) (fun _ _ _ h => h) ⟨Or.inl ⟨by rfl, ?_⟩, fun _ => rfl⟩ ?_
      rotate_left
      · (intro w; go_simp; try (with_reducible rfl))
      refine wpAnyIn_ready (rs := [9]) (by kernel_rfl) (by simp) ?_
      refine AllReadyIn.cons rfl (fun K hK => ?_) AllReadyIn.nil
      go_simp
      refine hK _ _ ?_
      clear hK K
      refine wpAnyIn_take (i := 12) (v := ?_) rfl rfl (by kernel_rfl) (by kernel_rfl) (by kernel_rfl) (fun _ _ _ h => h) ⟨Or.inl ⟨by rfl, ?_⟩, fun _ => rfl⟩ ?_
      rotate_left
      · (intro w; go_simp; try (with_reducible rfl))
      refine wpAnyIn_take (i := 13) (v := ?_) rfl rfl (by kernel_rfl) (by kernel_rfl) (by kernel_rfl) (fun _ _ _ h => h) ⟨Or.inl ⟨by rfl, ?_⟩, fun _ => rfl⟩ ?_
      rotate_left
      · (intro w; go_simp; try (with_reducible rfl))
      refine wpAnyIn_take (i := 14) (v := ?_) rfl rfl (by kernel_rfl) (by kernel_rfl) (by kernel_rfl) (fun _ _ _ h => h) ⟨Or.inl ⟨by rfl, ?_⟩, fun _ => rfl⟩ ?_
      rotate_left
      · (intro w; go_simp; try (with_reducible rfl))
      refine wpAnyIn_ready (rs := [15]) (by kernel_rfl) (by simp) ?_
      refine AllReadyIn.cons rfl (fun K hK => ?_) AllReadyIn.nil
      go_simp
      refine hK _ _ ?_
      clear hK K
      refine wpAnyIn_done (by kernel_rfl) ?_ _
      go_wp2
      refine bodyPost_ret (v := .tuple #[]) (results_none rfl _ _ _) rfl ⟨rfl, some ⟨b, 0, none⟩, cap, some b, ?_, fun _ h => .inl h, ?_⟩
      · have e := (Hm.out.ext HwB.out).arcAdd (z := y + x2) (by omega)
        rw [Hk.out, Int.natCast_add] at e
        rw [show IntKind.u32.wrap ((y : Int) + (x2 : Int)) = (y : Int) + (x2 : Int) from IntWalk.u32_in _ (by omega)]
        exact e.ext (ext_drew _)
      · exact ((Only.of_below HwB.out).setCell (fun _ => .inr rfl) _).drew
  · have hq' : ((t : Int) == (x1 : Int)) = false := by simp; omega
    rw [if_neg hq]
    clear hq
    go_enter Try.func124, Try.ntmps124
    go_wp2_with (go_at_call 123; refine (HFull.out _ (ext_alloc w _)).mono ?_; rintro e w2 ⟨rfl, hB2⟩; have e0 := ((bcell hB2).1 w.heap.size 0 (by simp)).trans (show _ = some (Value.int .u32 (fr : Nat)) by simp [go_sem]); have e1 := ((bcell hB2).1 w.heap.size 1 (by simp)).trans (show _ = some (Value.int .u32 (x1 : Nat)) by simp [go_sem]); have e2 := ((bcell hB2).1 w.heap.size 2 (by simp)).trans (show _ = some (Value.int .u32 (x2 : Nat)) by simp [go_sem]); have mc0 := ((bcell ((ext_alloc w _).trans (hB2.mono (by simp)))).1 m 0 hmlt).trans mc0; have mc1 := ((bcell ((ext_alloc w _).trans (hB2.mono (by simp)))).1 m 1 hmlt).trans mc1; have mf0 := ((bcell ((ext_alloc w _).trans (hB2.mono (by simp)))).2 m 0 hmlt).trans mf0; have mf1 := ((bcell ((ext_alloc w _).trans (hB2.mono (by simp)))).2 m 1 hmlt).trans mf1; have mc2 := ((bcell ((ext_alloc w _).trans (hB2.mono (by simp)))).1 m 2 hmlt).trans mc2; have mf2 := ((bcell ((ext_alloc w _).trans (hB2.mono (by simp)))).2 m 2 hmlt).trans mf2; have hz2 := hB2.size; have ca0 := ((bcell ((ext_alloc w _).trans (hB2.mono (by simp)))).1 b _ hbw).trans ca0'; have fa := ((bcell ((ext_alloc w _).trans (hB2.mono (by simp)))).2 b _ hbw).trans fa; have ca1 := ((bcell ((ext_alloc w _).trans (hB2.mono (by simp)))).1 b _ hbw).trans ca1'; simp at hz2; have HB2 := Lib.hid hB2; clear hB2)
    go_quiet (fail)
    go_wp2_with fail
    obtain ⟨wq, hwq⟩ : ∃ x, w2.drewN nq = x := ⟨_, rfl⟩
    have hwB : Below w.heap.size w wq := by
      rw [← hwq]
      exact below_drewN ((ext_alloc w _).trans (HB2.out.mono (by simp))) _
    have mw0 : wq.cell? ⟨m, 0, none⟩ = some (.int .u32 (fr : Nat)) := by rw [← hwq]; simp [go_sem, mc0]
    have mw1 : wq.cell? ⟨m, 1, none⟩ = some (.slice (some ⟨b, 0, none⟩) (k + 1) cap) := by rw [← hwq]; simp [go_sem, mc1]
    have mf1 : wq.frozen? ⟨m, 1, none⟩ = false := by rw [← hwq]; simp [go_sem, mf1]
    have e1 : wq.cell? ⟨w.heap.size, 1, none⟩ = some (.int .u32 (x1 : Nat)) := by rw [← hwq]; simp [go_sem, e1]
    have e2 : wq.cell? ⟨w.heap.size, 2, none⟩ = some (.int .u32 (x2 : Nat)) := by rw [← hwq]; simp [go_sem, e2]
    have ca1 : wq.cell? ⟨b, k * 2 + 1, none⟩ = some (.int .u32 (y : Nat)) := by rw [← hwq]; simp [go_sem, ca1]
    have fa : wq.frozen? ⟨b, k * 2 + 1, none⟩ = false := by rw [← hwq]; simp [go_sem, fa]
    have hzq : w.heap.size + 1 ≤ wq.heap.size := by rw [← hwq]; simpa using hz2
    have mw2 : wq.cell? ⟨m, 2, none⟩ = some (.slice lo last.length lc) := by rw [← hwq]; simp [go_sem, mc2]
    have mf0q : wq.frozen? ⟨m, 0, none⟩ = false := by rw [← hwq]; simp [go_sem, mf0]
    have mf2q : wq.frozen? ⟨m, 2, none⟩ = false := by rw [← hwq]; simp [go_sem, mf2]
    have HwB := Lib.hid hwB
    rw [hwq]
    clear hwq hwB mc0 mc1 mc2 mf0 mf2 e0 ca0
    have HNe : Hid (some b ≠ some m) := Lib.hid (fun e => hbm (by simpa using e))
    obtain ⟨css, hown, hall⟩ := Hm.out.own
    have HAll := Lib.hid hall
    have hown2 : Own wq (some ⟨b, 0, none⟩) cap (some b) 42 2 (k + 1) css.flatten := by
      have h := hown.ext HwB.out
      rw [show ((fr, A ++ [(t, y)]) : RowD).2.length = k + 1 by simp [Hk.out]] at h
      exact h
    have HO := Lib.hid hown2
    have Hmw2 := Lib.hid mw2
    have Hmf0 := Lib.hid mf0q
    have Hmf2 := Lib.hid mf2q
    have hmq : ¬ m = wq.heap.size := by omega
    have hmq2 : ¬ wq.heap.size = m := by omega
    have hsq : ¬ w.heap.size = wq.heap.size := by omega
    have hsq2 : ¬ wq.heap.size = w.heap.size := by omega
    clear hown hall hown2 mw2 mf0q mf2q ca1 fa
    refine (wpIn_wide (n := 0)).1 ?_
    refine wpIn_region_any (by kernel_rfl) ?_
    change wpAnyIn _ _ _ _ _ _ _ _ _ (World.drew _)
    refine wpAnyIn_take (i := 0) (v := ?_) rfl rfl (by kernel_rfl) (by kernel_rfl) (by kernel_rfl) (fun _ _ _ h => h) ⟨Or.inl ⟨by rfl, ?_⟩, fun _ => rfl⟩ ?_
    rotate_left
    · (intro w; go_simp; try (with_reducible rfl))
    refine wpAnyIn_take (i := 1) (v := ?_) rfl rfl (by kernel_rfl) (by kernel_rfl) (by kernel_rfl) (fun _ _ _ h => h) ⟨Or.inl ⟨by rfl, ?_⟩, fun _ => rfl⟩ ?_
    rotate_left
    · (intro w; go_simp; try (with_reducible rfl))
    refine wpAnyIn_take (i := 2) (v := ?_) rfl rfl (by kernel_rfl) (by kernel_rfl) (by kernel_rfl) (fun _ _ _ h => h) ⟨Or.inl ⟨by rfl, ?_⟩, fun _ => rfl⟩ ?_
    rotate_left
    · (intro w; go_simp; try (with_reducible rfl))
    refine wpAnyIn_take (i := 3) (v := ?_) rfl rfl (by kernel_rfl) (by kernel_rfl) (by kernel_rfl) (fun _ _ _ h => h) ⟨Or.inl ⟨by rfl, ?_⟩, fun _ => rfl⟩ ?_
    rotate_left
    · (intro w; go_simp; try (with_reducible rfl))
    refine wpAnyIn_take (i := 4) (v := ?_) rfl rfl (by kernel_rfl) (by kernel_rfl) (by kernel_rfl) (fun _ _ _ h => h) ⟨Or.inl ⟨by rfl, ?_⟩, fun _ => rfl⟩ ?_
    rotate_left
    · (intro w; go_simp; try (with_reducible rfl))
    refine wpAnyIn_take (i := 6) (v := ?_) rfl rfl (by kernel_rfl) (by kernel_rfl) (by kernel_rfl) (fun _ _ _ h => h) ⟨Or.inl ⟨by rfl, ?_⟩, fun _ => rfl⟩ ?_
    rotate_left
    · (intro w; go_simp; try (with_reducible rfl))
    refine wpAnyIn_take (i := 8) (v := ?_) rfl rfl (by kernel_rfl) (by kernel_rfl) (by kernel_rfl) (fun _ _ _ h => h) ⟨Or.inl ⟨by rfl, ?_⟩, fun _ => rfl⟩ ?_
    rotate_left
    · (intro w; go_simp; try (with_reducible rfl))
    refine wpAnyIn_ready (rs := [5, 7, 9]) (by kernel_rfl) (by simp) ?_
    refine AllReadyIn.cons rfl (fun K hK => ?_) ?_
    · go_simp
      refine hK _ _ ?_
      clear hK K
      refine wpAnyIn_ready (rs := [7, 9]) (by kernel_rfl) (by simp) ?_
      refine AllReadyIn.cons rfl (fun K hK => ?_) ?_
      · go_simp
        refine hK _ _ ?_
        clear hK K
        refine wpAnyIn_ready (rs := [9]) (by kernel_rfl) (by simp) ?_
        refine AllReadyIn.cons rfl (fun K hK => ?_) AllReadyIn.nil
        go_simp
        refine hK _ _ ?_
        clear hK K
        refine wpAnyIn_take (i := 10) (v := ?_) rfl rfl (by kernel_rfl) (by kernel_rfl) (by kernel_rfl) (fun _ _ _ h => h) ⟨Or.inl ⟨by rfl, ?_⟩, fun _ => rfl⟩ ?_
        rotate_left
        · (intro w; go_simp; try (with_reducible rfl))
        refine wpAnyIn_ready (rs := [11]) (by kernel_rfl) (by simp) ?_
        refine AllReadyIn.cons rfl (fun K hK => ?_) AllReadyIn.nil
        go_simp
        refine hK _ _ ?_
        clear hK K
        refine wpAnyIn_ready (rs := [12]) (by kernel_rfl) (by simp) ?_
        refine AllReadyIn.cons rfl (fun K hK => ?_) AllReadyIn.nil
        try rw [alloc_drew]
        refine step_appIn (fun _ => trivial) rfl (.tmp 66) (.tmp 72) 31 31 rfl hE ((HO.out.ext (ext_drew _)).alloc _) rfl rfl (srcManyE Try.underlying31 _ _ _ _ 2 _ (by simp) rfl (by simp [Value.oneCell'])) (by first | (simp [maxLen]; done) | (simp [maxLen]; omega)) (by omega) ?_
        intro ao5 cap5 g5 W5 ho5 hg5 hon5
        refine hK _ _ ?_
        clear hK K
        have u1 := hon5.cell (b := m) (by simp; omega) HNe.out 1
        have u2 := hon5.frozen (b := m) (by simp; omega) HNe.out 1
        simp [go_sem, ↓IntWalk.iteOmega, mw1, mf1] at u1 u2
        refine wpAnyIn_take (i := 13) (v := ?_) rfl rfl (by kernel_rfl) (by kernel_rfl) (by kernel_rfl) (fun _ _ _ h => h) ⟨Or.inl ⟨by rfl, ?_⟩, fun _ => rfl⟩ ?_
        rotate_left
        · (intro w; go_simp; try (with_reducible rfl))
        refine wpAnyIn_take (i := 14) (v := ?_) rfl rfl (by kernel_rfl) (by kernel_rfl) (by kernel_rfl) (fun _ _ _ h => h) ⟨Or.inl ⟨by rfl, ?_⟩, fun _ => rfl⟩ ?_
        rotate_left
        · (intro w; go_simp; try (with_reducible rfl))
        refine wpAnyIn_take (i := 15) (v := ?_) rfl rfl (by kernel_rfl) (by kernel_rfl) (by kernel_rfl) (fun _ _ _ h => h) ⟨Or.inl ⟨by rfl, ?_⟩, fun _ => rfl⟩ ?_
        rotate_left
        · (intro w; go_simp; try (with_reducible rfl))
        refine wpAnyIn_ready (rs := [16]) (by kernel_rfl) (by simp) ?_
        refine AllReadyIn.cons rfl (fun K hK => ?_) AllReadyIn.nil
        go_simp
        refine hK _ _ ?_
        clear hK K
        refine wpAnyIn_done (by kernel_rfl) ?_ _
        go_end0
        have y0 := hon5.cell (b := m) (by simp; omega) HNe.out 0
        have y2 := hon5.cell (b := m) (by simp; omega) HNe.out 2
        have z0 := hon5.frozen (b := m) (by simp; omega) HNe.out 0
        have z2 := hon5.frozen (b := m) (by simp; omega) HNe.out 2
        simp [go_sem, ↓IntWalk.iteOmega, mw0, Hmw2.out, Hmf0.out, Hmf2.out] at y0 y2 z0 z2
        have hOn : Only (fun k => k = m ∨ some b = some k) w W5 := ((Only.of_below (fp := fun k => k = m ∨ some b = some k) HwB.out).ext ((ext_drew wq).alloc (by simp) _)).trans hon5 (fun i _ e => .inr e)
        have hs5 := hOn.size
        have hg5' : ∀ k, g5 = some k → b = k ∨ wq.heap.size ≤ k := fun k h => by
          rcases hg5 with e | e <;> rw [e] at h
          · cases h; exact .inl rfl
          · cases h; simp
        have hMG := Hm.out
        have hS : OwnS arcRep (fun _ => False) W5 ao5 cap5 g5 42 (A ++ [(t, y)] ++ [(x1, x2)]) :=
          OwnS.snoc (w := w) (cs := arcCs (x1, x2)) HAll.out (arcRep_ok ⟨Hx.out.2.1, Hx.out.2.2⟩) (by have h := ho5; rw [← Hk.out] at h; simpa using (show Own W5 ao5 cap5 g5 42 arcRep.size (A.length + 1 + 1) (css.flatten ++ arcCs (x1, x2)) from h)) (fun _ hb => hb.elim) hs5
        have el : k + 1 + 1 = (A ++ [(t, y)] ++ [(x1, x2)]).length := by simp [Hk.out]
        refine ⟨rfl, ao5, cap5, g5, ?_, fun k h => by have := hg5' k h; rcases this with h | h; exact .inl (by rw [h]); exact .inr (by omega), hOn.setCell (fun _ => .inl rfl) _⟩
        rw [el]
        refine take_done (row := (fr, A ++ [(t, y)] ++ [(x1, x2)])) y0 u1 y2 z0 u2 z2 hS ?_ (by omega) (fun e => by have := hg5' m e; omega) ?_
        · exact hMG.rd.only hOn (fun h0 k off e h => h.elim (hMG.lne k off e h0).1 (hMG.lne k off e h0).2)
        · intro b' o e h0
          refine ⟨(hMG.lne b' o e h0).1, fun e2 => ?_⟩
          obtain ⟨b1, o', e3, hb', _⟩ := hMG.rd.pos h0
          have hne := (hMG.lne b' o e h0).2
          rw [e3] at e
          cases e
          rcases hg5' _ e2 with h | h
          · exact hne (by rw [h])
          · omega
      · refine AllReadyIn.cons rfl (fun K hK => ?_) AllReadyIn.nil
        go_simp
        refine hK _ _ ?_
        clear hK K
        refine wpAnyIn_ready (rs := [7]) (by kernel_rfl) (by simp) ?_
        refine AllReadyIn.cons rfl (fun K hK => ?_) AllReadyIn.nil
        go_simp
        refine hK _ _ ?_
        clear hK K
        refine wpAnyIn_take (i := 10) (v := ?_) rfl rfl (by kernel_rfl) (by kernel_rfl) (by kernel_rfl) (fun _ _ _ h => h) ⟨Or.inl ⟨by rfl, ?_⟩, fun _ => rfl⟩ ?_
        rotate_left
        · (intro w; go_simp; try (with_reducible rfl))
        refine wpAnyIn_ready (rs := [11]) (by kernel_rfl) (by simp) ?_
        refine AllReadyIn.cons rfl (fun K hK => ?_) AllReadyIn.nil
        go_simp
        refine hK _ _ ?_
        clear hK K
        refine wpAnyIn_ready (rs := [12]) (by kernel_rfl) (by simp) ?_
        refine AllReadyIn.cons rfl (fun K hK => ?_) AllReadyIn.nil
        try rw [alloc_drew]
        refine step_appIn (fun _ => trivial) rfl (.tmp 66) (.tmp 72) 31 31 rfl hE ((HO.out.ext (ext_drew _)).alloc _) rfl rfl (srcManyE Try.underlying31 _ _ _ _ 2 _ (by simp) rfl (by simp [Value.oneCell'])) (by first | (simp [maxLen]; done) | (simp [maxLen]; omega)) (by omega) ?_
        intro ao5 cap5 g5 W5 ho5 hg5 hon5
        refine hK _ _ ?_
        clear hK K
        have u1 := hon5.cell (b := m) (by simp; omega) HNe.out 1
        have u2 := hon5.frozen (b := m) (by simp; omega) HNe.out 1
        simp [go_sem, ↓IntWalk.iteOmega, mw1, mf1] at u1 u2
        refine wpAnyIn_take (i := 13) (v := ?_) rfl rfl (by kernel_rfl) (by kernel_rfl) (by kernel_rfl) (fun _ _ _ h => h) ⟨Or.inl ⟨by rfl, ?_⟩, fun _ => rfl⟩ ?_
        rotate_left
        · (intro w; go_simp; try (with_reducible rfl))
        refine wpAnyIn_take (i := 14) (v := ?_) rfl rfl (by kernel_rfl) (by kernel_rfl) (by kernel_rfl) (fun _ _ _ h => h) ⟨Or.inl ⟨by rfl, ?_⟩, fun _ => rfl⟩ ?_
        rotate_left
        · (intro w; go_simp; try (with_reducible rfl))
        refine wpAnyIn_take (i := 15) (v := ?_) rfl rfl (by kernel_rfl) (by kernel_rfl) (by kernel_rfl) (fun _ _ _ h => h) ⟨Or.inl ⟨by rfl, ?_⟩, fun _ => rfl⟩ ?_
        rotate_left
        · (intro w; go_simp; try (with_reducible rfl))
        refine wpAnyIn_ready (rs := [16]) (by kernel_rfl) (by simp) ?_
        refine AllReadyIn.cons rfl (fun K hK => ?_) AllReadyIn.nil
        go_simp
        refine hK _ _ ?_
        clear hK K
        refine wpAnyIn_done (by kernel_rfl) ?_ _
        go_end0
        have y0 := hon5.cell (b := m) (by simp; omega) HNe.out 0
        have y2 := hon5.cell (b := m) (by simp; omega) HNe.out 2
        have z0 := hon5.frozen (b := m) (by simp; omega) HNe.out 0
        have z2 := hon5.frozen (b := m) (by simp; omega) HNe.out 2
        simp [go_sem, ↓IntWalk.iteOmega, mw0, Hmw2.out, Hmf0.out, Hmf2.out] at y0 y2 z0 z2
        have hOn : Only (fun k => k = m ∨ some b = some k) w W5 := ((Only.of_below (fp := fun k => k = m ∨ some b = some k) HwB.out).ext ((ext_drew wq).alloc (by simp) _)).trans hon5 (fun i _ e => .inr e)
        have hs5 := hOn.size
        have hg5' : ∀ k, g5 = some k → b = k ∨ wq.heap.size ≤ k := fun k h => by
          rcases hg5 with e | e <;> rw [e] at h
          · cases h; exact .inl rfl
          · cases h; simp
        have hMG := Hm.out
        have hS : OwnS arcRep (fun _ => False) W5 ao5 cap5 g5 42 (A ++ [(t, y)] ++ [(x1, x2)]) :=
          OwnS.snoc (w := w) (cs := arcCs (x1, x2)) HAll.out (arcRep_ok ⟨Hx.out.2.1, Hx.out.2.2⟩) (by have h := ho5; rw [← Hk.out] at h; simpa using (show Own W5 ao5 cap5 g5 42 arcRep.size (A.length + 1 + 1) (css.flatten ++ arcCs (x1, x2)) from h)) (fun _ hb => hb.elim) hs5
        have el : k + 1 + 1 = (A ++ [(t, y)] ++ [(x1, x2)]).length := by simp [Hk.out]
        refine ⟨rfl, ao5, cap5, g5, ?_, fun k h => by have := hg5' k h; rcases this with h | h; exact .inl (by rw [h]); exact .inr (by omega), hOn.setCell (fun _ => .inl rfl) _⟩
        rw [el]
        refine take_done (row := (fr, A ++ [(t, y)] ++ [(x1, x2)])) y0 u1 y2 z0 u2 z2 hS ?_ (by omega) (fun e => by have := hg5' m e; omega) ?_
        · exact hMG.rd.only hOn (fun h0 k off e h => h.elim (hMG.lne k off e h0).1 (hMG.lne k off e h0).2)
        · intro b' o e h0
          refine ⟨(hMG.lne b' o e h0).1, fun e2 => ?_⟩
          obtain ⟨b1, o', e3, hb', _⟩ := hMG.rd.pos h0
          have hne := (hMG.lne b' o e h0).2
          rw [e3] at e
          cases e
          rcases hg5' _ e2 with h | h
          · exact hne (by rw [h])
          · omega
    · refine AllReadyIn.cons rfl (fun K hK => ?_) ?_
      · go_simp
        refine hK _ _ ?_
        clear hK K
        refine wpAnyIn_ready (rs := [5, 9]) (by kernel_rfl) (by simp) ?_
        refine AllReadyIn.cons rfl (fun K hK => ?_) ?_
        · go_simp
          refine hK _ _ ?_
          clear hK K
          refine wpAnyIn_ready (rs := [9]) (by kernel_rfl) (by simp) ?_
          refine AllReadyIn.cons rfl (fun K hK => ?_) AllReadyIn.nil
          go_simp
          refine hK _ _ ?_
          clear hK K
          refine wpAnyIn_take (i := 10) (v := ?_) rfl rfl (by kernel_rfl) (by kernel_rfl) (by kernel_rfl) (fun _ _ _ h => h) ⟨Or.inl ⟨by rfl, ?_⟩, fun _ => rfl⟩ ?_
          rotate_left
          · (intro w; go_simp; try (with_reducible rfl))
          refine wpAnyIn_ready (rs := [11]) (by kernel_rfl) (by simp) ?_
          refine AllReadyIn.cons rfl (fun K hK => ?_) AllReadyIn.nil
          go_simp
          refine hK _ _ ?_
          clear hK K
          refine wpAnyIn_ready (rs := [12]) (by kernel_rfl) (by simp) ?_
          refine AllReadyIn.cons rfl (fun K hK => ?_) AllReadyIn.nil
          try rw [alloc_drew]
          refine step_appIn (fun _ => trivial) rfl (.tmp 66) (.tmp 72) 31 31 rfl hE ((HO.out.ext (ext_drew _)).alloc _) rfl rfl (srcManyE Try.underlying31 _ _ _ _ 2 _ (by simp) rfl (by simp [Value.oneCell'])) (by first | (simp [maxLen]; done) | (simp [maxLen]; omega)) (by omega) ?_
          intro ao5 cap5 g5 W5 ho5 hg5 hon5
          refine hK _ _ ?_
          clear hK K
          have u1 := hon5.cell (b := m) (by simp; omega) HNe.out 1
          have u2 := hon5.frozen (b := m) (by simp; omega) HNe.out 1
          simp [go_sem, ↓IntWalk.iteOmega, mw1, mf1] at u1 u2
          refine wpAnyIn_take (i := 13) (v := ?_) rfl rfl (by kernel_rfl) (by kernel_rfl) (by kernel_rfl) (fun _ _ _ h => h) ⟨Or.inl ⟨by rfl, ?_⟩, fun _ => rfl⟩ ?_
          rotate_left
          · (intro w; go_simp; try (with_reducible rfl))
          refine wpAnyIn_take (i := 14) (v := ?_) rfl rfl (by kernel_rfl) (by kernel_rfl) (by kernel_rfl) (fun _ _ _ h => h) ⟨Or.inl ⟨by rfl, ?_⟩, fun _ => rfl⟩ ?_
          rotate_left
          · (intro w; go_simp; try (with_reducible rfl))
          refine wpAnyIn_take (i := 15) (v := ?_) rfl rfl (by kernel_rfl) (by kernel_rfl) (by kernel_rfl) (fun _ _ _ h => h) ⟨Or.inl ⟨by rfl, ?_⟩, fun _ => rfl⟩ ?_
          rotate_left
          · (intro w; go_simp; try (with_reducible rfl))
          refine wpAnyIn_ready (rs := [16]) (by kernel_rfl) (by simp) ?_
          refine AllReadyIn.cons rfl (fun K hK => ?_) AllReadyIn.nil
          go_simp
          refine hK _ _ ?_
          clear hK K
          refine wpAnyIn_done (by kernel_rfl) ?_ _
          go_end0
          have y0 := hon5.cell (b := m) (by simp; omega) HNe.out 0
          have y2 := hon5.cell (b := m) (by simp; omega) HNe.out 2
          have z0 := hon5.frozen (b := m) (by simp; omega) HNe.out 0
          have z2 := hon5.frozen (b := m) (by simp; omega) HNe.out 2
          simp [go_sem, ↓IntWalk.iteOmega, mw0, Hmw2.out, Hmf0.out, Hmf2.out] at y0 y2 z0 z2
          have hOn : Only (fun k => k = m ∨ some b = some k) w W5 := ((Only.of_below (fp := fun k => k = m ∨ some b = some k) HwB.out).ext ((ext_drew wq).alloc (by simp) _)).trans hon5 (fun i _ e => .inr e)
          have hs5 := hOn.size
          have hg5' : ∀ k, g5 = some k → b = k ∨ wq.heap.size ≤ k := fun k h => by
            rcases hg5 with e | e <;> rw [e] at h
            · cases h; exact .inl rfl
            · cases h; simp
          have hMG := Hm.out
          have hS : OwnS arcRep (fun _ => False) W5 ao5 cap5 g5 42 (A ++ [(t, y)] ++ [(x1, x2)]) :=
            OwnS.snoc (w := w) (cs := arcCs (x1, x2)) HAll.out (arcRep_ok ⟨Hx.out.2.1, Hx.out.2.2⟩) (by have h := ho5; rw [← Hk.out] at h; simpa using (show Own W5 ao5 cap5 g5 42 arcRep.size (A.length + 1 + 1) (css.flatten ++ arcCs (x1, x2)) from h)) (fun _ hb => hb.elim) hs5
          have el : k + 1 + 1 = (A ++ [(t, y)] ++ [(x1, x2)]).length := by simp [Hk.out]
          refine ⟨rfl, ao5, cap5, g5, ?_, fun k h => by have := hg5' k h; rcases this with h | h; exact .inl (by rw [h]); exact .inr (by omega), hOn.setCell (fun _ => .inl rfl) _⟩
          rw [el]
          refine take_done (row := (fr, A ++ [(t, y)] ++ [(x1, x2)])) y0 u1 y2 z0 u2 z2 hS ?_ (by omega) (fun e => by have := hg5' m e; omega) ?_
          · exact hMG.rd.only hOn (fun h0 k off e h => h.elim (hMG.lne k off e h0).1 (hMG.lne k off e h0).2)
          · intro b' o e h0
            refine ⟨(hMG.lne b' o e h0).1, fun e2 => ?_⟩
            obtain ⟨b1, o', e3, hb', _⟩ := hMG.rd.pos h0
            have hne := (hMG.lne b' o e h0).2
            rw [e3] at e
            cases e
            rcases hg5' _ e2 with h | h
            · exact hne (by rw [h])
            · omega
        · refine AllReadyIn.cons rfl (fun K hK => ?_) AllReadyIn.nil
          go_simp
          refine hK _ _ ?_
          clear hK K
          refine wpAnyIn_take (i := 10) (v := ?_) rfl rfl (by kernel_rfl) (by kernel_rfl) (by kernel_rfl) (fun _ _ _ h => h) ⟨Or.inl ⟨by rfl, ?_⟩, fun _ => rfl⟩ ?_
          rotate_left
          · (intro w; go_simp; try (with_reducible rfl))
          refine wpAnyIn_ready (rs := [5, 11]) (by kernel_rfl) (by simp) ?_
          refine AllReadyIn.cons rfl (fun K hK => ?_) ?_
          · go_simp
            refine hK _ _ ?_
            clear hK K
            refine wpAnyIn_ready (rs := [11]) (by kernel_rfl) (by simp) ?_
            refine AllReadyIn.cons rfl (fun K hK => ?_) AllReadyIn.nil
            go_simp
            refine hK _ _ ?_
            clear hK K
            refine wpAnyIn_ready (rs := [12]) (by kernel_rfl) (by simp) ?_
            refine AllReadyIn.cons rfl (fun K hK => ?_) AllReadyIn.nil
            try rw [alloc_drew]
            refine step_appIn (fun _ => trivial) rfl (.tmp 66) (.tmp 72) 31 31 rfl hE ((HO.out.ext (ext_drew _)).alloc _) rfl rfl (srcManyE Try.underlying31 _ _ _ _ 2 _ (by simp) rfl (by simp [Value.oneCell'])) (by first | (simp [maxLen]; done) | (simp [maxLen]; omega)) (by omega) ?_
            intro ao5 cap5 g5 W5 ho5 hg5 hon5
            refine hK _ _ ?_
            clear hK K
            have u1 := hon5.cell (b := m) (by simp; omega) HNe.out 1
            have u2 := hon5.frozen (b := m) (by simp; omega) HNe.out 1
            simp [go_sem, ↓IntWalk.iteOmega, mw1, mf1] at u1 u2
            refine wpAnyIn_take (i := 13) (v := ?_) rfl rfl (by kernel_rfl) (by kernel_rfl) (by kernel_rfl) (fun _ _ _ h => h) ⟨Or.inl ⟨by rfl, ?_⟩, fun _ => rfl⟩ ?_
            rotate_left
            · (intro w; go_simp; try (with_reducible rfl))
            refine wpAnyIn_take (i := 14) (v := ?_) rfl rfl (by kernel_rfl) (by kernel_rfl) (by kernel_rfl) (fun _ _ _ h => h) ⟨Or.inl ⟨by rfl, ?_⟩, fun _ => rfl⟩ ?_
            rotate_left
            · (intro w; go_simp; try (with_reducible rfl))
            refine wpAnyIn_take (i := 15) (v := ?_) rfl rfl (by kernel_rfl) (by kernel_rfl) (by kernel_rfl) (fun _ _ _ h => h) ⟨Or.inl ⟨by rfl, ?_⟩, fun _ => rfl⟩ ?_
            rotate_left
            · (intro w; go_simp; try (with_reducible rfl))
            refine wpAnyIn_ready (rs := [16]) (by kernel_rfl) (by simp) ?_
            refine AllReadyIn.cons rfl (fun K hK => ?_) AllReadyIn.nil
            go_simp
            refine hK _ _ ?_
            clear hK K
            refine wpAnyIn_done (by kernel_rfl) ?_ _
            go_end0
            have y0 := hon5.cell (b := m) (by simp; omega) HNe.out 0
            have y2 := hon5.cell (b := m) (by simp; omega) HNe.out 2
            have z0 := hon5.frozen (b := m) (by simp; omega) HNe.out 0
            have z2 := hon5.frozen (b := m) (by simp; omega) HNe.out 2
            simp [go_sem, ↓IntWalk.iteOmega, mw0, Hmw2.out, Hmf0.out, Hmf2.out] at y0 y2 z0 z2
            have hOn : Only (fun k => k = m ∨ some b = some k) w W5 := ((Only.of_below (fp := fun k => k = m ∨ some b = some k) HwB.out).ext ((ext_drew wq).alloc (by simp) _)).trans hon5 (fun i _ e => .inr e)
            have hs5 := hOn.size
            have hg5' : ∀ k, g5 = some k → b = k ∨ wq.heap.size ≤ k := fun k h => by
              rcases hg5 with e | e <;> rw [e] at h
              · cases h; exact .inl rfl
              · cases h; simp
            have hMG := Hm.out
            have hS : OwnS arcRep (fun _ => False) W5 ao5 cap5 g5 42 (A ++ [(t, y)] ++ [(x1, x2)]) :=
              OwnS.snoc (w := w) (cs := arcCs (x1, x2)) HAll.out (arcRep_ok ⟨Hx.out.2.1, Hx.out.2.2⟩) (by have h := ho5; rw [← Hk.out] at h; simpa using (show Own W5 ao5 cap5 g5 42 arcRep.size (A.length + 1 + 1) (css.flatten ++ arcCs (x1, x2)) from h)) (fun _ hb => hb.elim) hs5
            have el : k + 1 + 1 = (A ++ [(t, y)] ++ [(x1, x2)]).length := by simp [Hk.out]
            refine ⟨rfl, ao5, cap5, g5, ?_, fun k h => by have := hg5' k h; rcases this with h | h; exact .inl (by rw [h]); exact .inr (by omega), hOn.setCell (fun _ => .inl rfl) _⟩
            rw [el]
            refine take_done (row := (fr, A ++ [(t, y)] ++ [(x1, x2)])) y0 u1 y2 z0 u2 z2 hS ?_ (by omega) (fun e => by have := hg5' m e; omega) ?_
            · exact hMG.rd.only hOn (fun h0 k off e h => h.elim (hMG.lne k off e h0).1 (hMG.lne k off e h0).2)
            · intro b' o e h0
              refine ⟨(hMG.lne b' o e h0).1, fun e2 => ?_⟩
              obtain ⟨b1, o', e3, hb', _⟩ := hMG.rd.pos h0
              have hne := (hMG.lne b' o e h0).2
              rw [e3] at e
              cases e
              rcases hg5' _ e2 with h | h
              · exact hne (by rw [h])
              · omega
          · refine AllReadyIn.cons rfl (fun K hK => ?_) AllReadyIn.nil
            go_simp
            refine hK _ _ ?_
            clear hK K
            refine wpAnyIn_ready (rs := [5]) (by kernel_rfl) (by simp) ?_
            refine AllReadyIn.cons rfl (fun K hK => ?_) AllReadyIn.nil
            go_simp
            refine hK _ _ ?_
            clear hK K
            refine wpAnyIn_ready (rs := [12]) (by kernel_rfl) (by simp) ?_
            refine AllReadyIn.cons rfl (fun K hK => ?_) AllReadyIn.nil
            try rw [alloc_drew]
            refine step_appIn (fun _ => trivial) rfl (.tmp 66) (.tmp 72) 31 31 rfl hE ((HO.out.ext (ext_drew _)).alloc _) rfl rfl (srcManyE Try.underlying31 _ _ _ _ 2 _ (by simp) rfl (by simp [Value.oneCell'])) (by first | (simp [maxLen]; done) | (simp [maxLen]; omega)) (by omega) ?_
            intro ao5 cap5 g5 W5 ho5 hg5 hon5
            refine hK _ _ ?_
            clear hK K
            have u1 := hon5.cell (b := m) (by simp; omega) HNe.out 1
            have u2 := hon5.frozen (b := m) (by simp; omega) HNe.out 1
            simp [go_sem, ↓IntWalk.iteOmega, mw1, mf1] at u1 u2
            refine wpAnyIn_take (i := 13) (v := ?_) rfl rfl (by kernel_rfl) (by kernel_rfl) (by kernel_rfl) (fun _ _ _ h => h) ⟨Or.inl ⟨by rfl, ?_⟩, fun _ => rfl⟩ ?_
            rotate_left
            · (intro w; go_simp; try (with_reducible rfl))
            refine wpAnyIn_take (i := 14) (v := ?_) rfl rfl (by kernel_rfl) (by kernel_rfl) (by kernel_rfl) (fun _ _ _ h => h) ⟨Or.inl ⟨by rfl, ?_⟩, fun _ => rfl⟩ ?_
            rotate_left
            · (intro w; go_simp; try (with_reducible rfl))
            refine wpAnyIn_take (i := 15) (v := ?_) rfl rfl (by kernel_rfl) (by kernel_rfl) (by kernel_rfl) (fun _ _ _ h => h) ⟨Or.inl ⟨by rfl, ?_⟩, fun _ => rfl⟩ ?_
            rotate_left
            · (intro w; go_simp; try (with_reducible rfl))
            refine wpAnyIn_ready (rs := [16]) (by kernel_rfl) (by simp) ?_
            refine AllReadyIn.cons rfl (fun K hK => ?_) AllReadyIn.nil
            go_simp
            refine hK _ _ ?_
            clear hK K
            refine wpAnyIn_done (by kernel_rfl) ?_ _
            go_end0
            have y0 := hon5.cell (b := m) (by simp; omega) HNe.out 0
            have y2 := hon5.cell (b := m) (by simp; omega) HNe.out 2
            have z0 := hon5.frozen (b := m) (by simp; omega) HNe.out 0
            have z2 := hon5.frozen (b := m) (by simp; omega) HNe.out 2
            simp [go_sem, ↓IntWalk.iteOmega, mw0, Hmw2.out, Hmf0.out, Hmf2.out] at y0 y2 z0 z2
            have hOn : Only (fun k => k = m ∨ some b = some k) w W5 := ((Only.of_below (fp := fun k => k = m ∨ some b = some k) HwB.out).ext ((ext_drew wq).alloc (by simp) _)).trans hon5 (fun i _ e => .inr e)
            have hs5 := hOn.size
            have hg5' : ∀ k, g5 = some k → b = k ∨ wq.heap.size ≤ k := fun k h => by
              rcases hg5 with e | e <;> rw [e] at h
              · cases h; exact .inl rfl
              · cases h; simp
            have hMG := Hm.out
            have hS : OwnS arcRep (fun _ => False) W5 ao5 cap5 g5 42 (A ++ [(t, y)] ++ [(x1, x2)]) :=
              OwnS.snoc (w := w) (cs := arcCs (x1, x2)) HAll.out (arcRep_ok ⟨Hx.out.2.1, Hx.out.2.2⟩) (by have h := ho5; rw [← Hk.out] at h; simpa using (show Own W5 ao5 cap5 g5 42 arcRep.size (A.length + 1 + 1) (css.flatten ++ arcCs (x1, x2)) from h)) (fun _ hb => hb.elim) hs5
            have el : k + 1 + 1 = (A ++ [(t, y)] ++ [(x1, x2)]).length := by simp [Hk.out]
            refine ⟨rfl, ao5, cap5, g5, ?_, fun k h => by have := hg5' k h; rcases this with h | h; exact .inl (by rw [h]); exact .inr (by omega), hOn.setCell (fun _ => .inl rfl) _⟩
            rw [el]
            refine take_done (row := (fr, A ++ [(t, y)] ++ [(x1, x2)])) y0 u1 y2 z0 u2 z2 hS ?_ (by omega) (fun e => by have := hg5' m e; omega) ?_
            · exact hMG.rd.only hOn (fun h0 k off e h => h.elim (hMG.lne k off e h0).1 (hMG.lne k off e h0).2)
            · intro b' o e h0
              refine ⟨(hMG.lne b' o e h0).1, fun e2 => ?_⟩
              obtain ⟨b1, o', e3, hb', _⟩ := hMG.rd.pos h0
              have hne := (hMG.lne b' o e h0).2
              rw [e3] at e
              cases e
              rcases hg5' _ e2 with h | h
              · exact hne (by rw [h])
              · omega
      · refine AllReadyIn.cons rfl (fun K hK => ?_) AllReadyIn.nil
        go_simp
        refine hK _ _ ?_
        clear hK K
        refine wpAnyIn_ready (rs := [5, 7]) (by kernel_rfl) (by simp) ?_
        refine AllReadyIn.cons rfl (fun K hK => ?_) ?_
        · go_simp
          refine hK _ _ ?_
          clear hK K
          refine wpAnyIn_ready (rs := [7]) (by kernel_rfl) (by simp) ?_
          refine AllReadyIn.cons rfl (fun K hK => ?_) AllReadyIn.nil
          go_simp
          refine hK _ _ ?_
          clear hK K
          refine wpAnyIn_take (i := 10) (v := ?_) rfl rfl (by kernel_rfl) (by kernel_rfl) (by kernel_rfl) (fun _ _ _ h => h) ⟨Or.inl ⟨by rfl, ?_⟩, fun _ => rfl⟩ ?_
          rotate_left
          · (intro w; go_simp; try (with_reducible rfl))
          refine wpAnyIn_ready (rs := [11]) (by kernel_rfl) (by simp) ?_
          refine AllReadyIn.cons rfl (fun K hK => ?_) AllReadyIn.nil
          go_simp
          refine hK _ _ ?_
          clear hK K
          refine wpAnyIn_ready (rs := [12]) (by kernel_rfl) (by simp) ?_
          refine AllReadyIn.cons rfl (fun K hK => ?_) AllReadyIn.nil
          try rw [alloc_drew]
          refine step_appIn (fun _ => trivial) rfl (.tmp 66) (.tmp 72) 31 31 rfl hE ((HO.out.ext (ext_drew _)).alloc _) rfl rfl (srcManyE Try.underlying31 _ _ _ _ 2 _ (by simp) rfl (by simp [Value.oneCell'])) (by first | (simp [maxLen]; done) | (simp [maxLen]; omega)) (by omega) ?_
          intro ao5 cap5 g5 W5 ho5 hg5 hon5
          refine hK _ _ ?_
          clear hK K
          have u1 := hon5.cell (b := m) (by simp; omega) HNe.out 1
          have u2 := hon5.frozen (b := m) (by simp; omega) HNe.out 1
          simp [go_sem, ↓IntWalk.iteOmega, mw1, mf1] at u1 u2
          refine wpAnyIn_take (i := 13) (v := ?_) rfl rfl (by kernel_rfl) (by kernel_rfl) (by kernel_rfl) (fun _ _ _ h => h) ⟨Or.inl ⟨by rfl, ?_⟩, fun _ => rfl⟩ ?_
          rotate_left
          · (intro w; go_simp; try (with_reducible rfl))
          refine wpAnyIn_take (i := 14) (v := ?_) rfl rfl (by kernel_rfl) (by kernel_rfl) (by kernel_rfl) (fun _ _ _ h => h) ⟨Or.inl ⟨by rfl, ?_⟩, fun _ => rfl⟩ ?_
          rotate_left
          · (intro w; go_simp; try (with_reducible rfl))
          refine wpAnyIn_take (i := 15) (v := ?_) rfl rfl (by kernel_rfl) (by kernel_rfl) (by kernel_rfl) (fun _ _ _ h => h) ⟨Or.inl ⟨by rfl, ?_⟩, fun _ => rfl⟩ ?_
          rotate_left
          · (intro w; go_simp; try (with_reducible rfl))
          refine wpAnyIn_ready (rs := [16]) (by kernel_rfl) (by simp) ?_
          refine AllReadyIn.cons rfl (fun K hK => ?_) AllReadyIn.nil
          go_simp
          refine hK _ _ ?_
          clear hK K
          refine wpAnyIn_done (by kernel_rfl) ?_ _
          go_end0
          have y0 := hon5.cell (b := m) (by simp; omega) HNe.out 0
          have y2 := hon5.cell (b := m) (by simp; omega) HNe.out 2
          have z0 := hon5.frozen (b := m) (by simp; omega) HNe.out 0
          have z2 := hon5.frozen (b := m) (by simp; omega) HNe.out 2
          simp [go_sem, ↓IntWalk.iteOmega, mw0, Hmw2.out, Hmf0.out, Hmf2.out] at y0 y2 z0 z2
          have hOn : Only (fun k => k = m ∨ some b = some k) w W5 := ((Only.of_below (fp := fun k => k = m ∨ some b = some k) HwB.out).ext ((ext_drew wq).alloc (by simp) _)).trans hon5 (fun i _ e => .inr e)
          have hs5 := hOn.size
          have hg5' : ∀ k, g5 = some k → b = k ∨ wq.heap.size ≤ k := fun k h => by
            rcases hg5 with e | e <;> rw [e] at h
            · cases h; exact .inl rfl
            · cases h; simp
          have hMG := Hm.out
          have hS : OwnS arcRep (fun _ => False) W5 ao5 cap5 g5 42 (A ++ [(t, y)] ++ [(x1, x2)]) :=
            OwnS.snoc (w := w) (cs := arcCs (x1, x2)) HAll.out (arcRep_ok ⟨Hx.out.2.1, Hx.out.2.2⟩) (by have h := ho5; rw [← Hk.out] at h; simpa using (show Own W5 ao5 cap5 g5 42 arcRep.size (A.length + 1 + 1) (css.flatten ++ arcCs (x1, x2)) from h)) (fun _ hb => hb.elim) hs5
          have el : k + 1 + 1 = (A ++ [(t, y)] ++ [(x1, x2)]).length := by simp [Hk.out]
          refine ⟨rfl, ao5, cap5, g5, ?_, fun k h => by have := hg5' k h; rcases this with h | h; exact .inl (by rw [h]); exact .inr (by omega), hOn.setCell (fun _ => .inl rfl) _⟩
          rw [el]
          refine take_done (row := (fr, A ++ [(t, y)] ++ [(x1, x2)])) y0 u1 y2 z0 u2 z2 hS ?_ (by omega) (fun e => by have := hg5' m e; omega) ?_
          · exact hMG.rd.only hOn (fun h0 k off e h => h.elim (hMG.lne k off e h0).1 (hMG.lne k off e h0).2)
          · intro b' o e h0
            refine ⟨(hMG.lne b' o e h0).1, fun e2 => ?_⟩
            obtain ⟨b1, o', e3, hb', _⟩ := hMG.rd.pos h0
            have hne := (hMG.lne b' o e h0).2
            rw [e3] at e
            cases e
            rcases hg5' _ e2 with h | h
            · exact hne (by rw [h])
            · omega
        · refine AllReadyIn.cons rfl (fun K hK => ?_) AllReadyIn.nil
          go_simp
          refine hK _ _ ?_
          clear hK K
          refine wpAnyIn_take (i := 10) (v := ?_) rfl rfl (by kernel_rfl) (by kernel_rfl) (by kernel_rfl) (fun _ _ _ h => h) ⟨Or.inl ⟨by rfl, ?_⟩, fun _ => rfl⟩ ?_
          rotate_left
          · (intro w; go_simp; try (with_reducible rfl))
          refine wpAnyIn_ready (rs := [5, 11]) (by kernel_rfl) (by simp) ?_
          refine AllReadyIn.cons rfl (fun K hK => ?_) ?_
          · go_simp
            refine hK _ _ ?_
            clear hK K
            refine wpAnyIn_ready (rs := [11]) (by kernel_rfl) (by simp) ?_
            refine AllReadyIn.cons rfl (fun K hK => ?_) AllReadyIn.nil
            go_simp
            refine hK _ _ ?_
            clear hK K
            refine wpAnyIn_ready (rs := [12]) (by kernel_rfl) (by simp) ?_
            refine AllReadyIn.cons rfl (fun K hK => ?_) AllReadyIn.nil
            try rw [alloc_drew]
            refine step_appIn (fun _ => trivial) rfl (.tmp 66) (.tmp 72) 31 31 rfl hE ((HO.out.ext (ext_drew _)).alloc _) rfl rfl (srcManyE Try.underlying31 _ _ _ _ 2 _ (by simp) rfl (by simp [Value.oneCell'])) (by first | (simp [maxLen]; done) | (simp [maxLen]; omega)) (by omega) ?_
            intro ao5 cap5 g5 W5 ho5 hg5 hon5
            refine hK _ _ ?_
            clear hK K
            have u1 := hon5.cell (b := m) (by simp; omega) HNe.out 1
            have u2 := hon5.frozen (b := m) (by simp; omega) HNe.out 1
            simp [go_sem, ↓IntWalk.iteOmega, mw1, mf1] at u1 u2
            refine wpAnyIn_take (i := 13) (v := ?_) rfl rfl (by kernel_rfl) (by kernel_rfl) (by kernel_rfl) (fun _ _ _ h => h) ⟨Or.inl ⟨by rfl, ?_⟩, fun _ => rfl⟩ ?_
            rotate_left
            · (intro w; go_simp; try (with_reducible rfl))
            refine wpAnyIn_take (i := 14) (v := ?_) rfl rfl (by kernel_rfl) (by kernel_rfl) (by kernel_rfl) (fun _ _ _ h => h) ⟨Or.inl ⟨by rfl, ?_⟩, fun _ => rfl⟩ ?_
            rotate_left
            · (intro w; go_simp; try (with_reducible rfl))
            refine wpAnyIn_take (i := 15) (v := ?_) rfl rfl (by kernel_rfl) (by kernel_rfl) (by kernel_rfl) (fun _ _ _ h => h) ⟨Or.inl ⟨by rfl, ?_⟩, fun _ => rfl⟩ ?_
            rotate_left
            · (intro w; go_simp; try (with_reducible rfl))
            refine wpAnyIn_ready (rs := [16]) (by kernel_rfl) (by simp) ?_
            refine AllReadyIn.cons rfl (fun K hK => ?_) AllReadyIn.nil
            go_simp
            refine hK _ _ ?_
            clear hK K
            refine wpAnyIn_done (by kernel_rfl) ?_ _
            go_end0
            have y0 := hon5.cell (b := m) (by simp; omega) HNe.out 0
            have y2 := hon5.cell (b := m) (by simp; omega) HNe.out 2
            have z0 := hon5.frozen (b := m) (by simp; omega) HNe.out 0
            have z2 := hon5.frozen (b := m) (by simp; omega) HNe.out 2
            simp [go_sem, ↓IntWalk.iteOmega, mw0, Hmw2.out, Hmf0.out, Hmf2.out] at y0 y2 z0 z2
            have hOn : Only (fun k => k = m ∨ some b = some k) w W5 := ((Only.of_below (fp := fun k => k = m ∨ some b = some k) HwB.out).ext ((ext_drew wq).alloc (by simp) _)).trans hon5 (fun i _ e => .inr e)
            have hs5 := hOn.size
            have hg5' : ∀ k, g5 = some k → b = k ∨ wq.heap.size ≤ k := fun k h => by
              rcases hg5 with e | e <;> rw [e] at h
              · cases h; exact .inl rfl
              · cases h; simp
            have hMG := Hm.out
            have hS : OwnS arcRep (fun _ => False) W5 ao5 cap5 g5 42 (A ++ [(t, y)] ++ [(x1, x2)]) :=
              OwnS.snoc (w := w) (cs := arcCs (x1, x2)) HAll.out (arcRep_ok ⟨Hx.out.2.1, Hx.out.2.2⟩) (by have h := ho5; rw [← Hk.out] at h; simpa using (show Own W5 ao5 cap5 g5 42 arcRep.size (A.length + 1 + 1) (css.flatten ++ arcCs (x1, x2)) from h)) (fun _ hb => hb.elim) hs5
            have el : k + 1 + 1 = (A ++ [(t, y)] ++ [(x1, x2)]).length := by simp [Hk.out]
            refine ⟨rfl, ao5, cap5, g5, ?_, fun k h => by have := hg5' k h; rcases this with h | h; exact .inl (by rw [h]); exact .inr (by omega), hOn.setCell (fun _ => .inl rfl) _⟩
            rw [el]
            refine take_done (row := (fr, A ++ [(t, y)] ++ [(x1, x2)])) y0 u1 y2 z0 u2 z2 hS ?_ (by omega) (fun e => by have := hg5' m e; omega) ?_
            · exact hMG.rd.only hOn (fun h0 k off e h => h.elim (hMG.lne k off e h0).1 (hMG.lne k off e h0).2)
            · intro b' o e h0
              refine ⟨(hMG.lne b' o e h0).1, fun e2 => ?_⟩
              obtain ⟨b1, o', e3, hb', _⟩ := hMG.rd.pos h0
              have hne := (hMG.lne b' o e h0).2
              rw [e3] at e
              cases e
              rcases hg5' _ e2 with h | h
              · exact hne (by rw [h])
              · omega
          · refine AllReadyIn.cons rfl (fun K hK => ?_) AllReadyIn.nil
            go_simp
            refine hK _ _ ?_
            clear hK K
            refine wpAnyIn_ready (rs := [5]) (by kernel_rfl) (by simp) ?_
            refine AllReadyIn.cons rfl (fun K hK => ?_) AllReadyIn.nil
            go_simp
            refine hK _ _ ?_
            clear hK K
            refine wpAnyIn_ready (rs := [12]) (by kernel_rfl) (by simp) ?_
            refine AllReadyIn.cons rfl (fun K hK => ?_) AllReadyIn.nil
            try rw [alloc_drew]
            refine step_appIn (fun _ => trivial) rfl (.tmp 66) (.tmp 72) 31 31 rfl hE ((HO.out.ext (ext_drew _)).alloc _) rfl rfl (srcManyE Try.underlying31 _ _ _ _ 2 _ (by simp) rfl (by simp [Value.oneCell'])) (by first | (simp [maxLen]; done) | (simp [maxLen]; omega)) (by omega) ?_
            intro ao5 cap5 g5 W5 ho5 hg5 hon5
            refine hK _ _ ?_
            clear hK K
            have u1 := hon5.cell (b := m) (by simp; omega) HNe.out 1
            have u2 := hon5.frozen (b := m) (by simp; omega) HNe.out 1
            simp [go_sem, ↓IntWalk.iteOmega, mw1, mf1] at u1 u2
            refine wpAnyIn_take (i := 13) (v := ?_) rfl rfl (by kernel_rfl) (by kernel_rfl) (by kernel_rfl) (fun _ _ _ h => h) ⟨Or.inl ⟨by rfl, ?_⟩, fun _ => rfl⟩ ?_
            rotate_left
            · (intro w; go_simp; try (with_reducible rfl))
            refine wpAnyIn_take (i := 14) (v := ?_) rfl rfl (by kernel_rfl) (by kernel_rfl) (by kernel_rfl) (fun _ _ _ h => h) ⟨Or.inl ⟨by rfl, ?_⟩, fun _ => rfl⟩ ?_
            rotate_left
            · (intro w; go_simp; try (with_reducible rfl))
            refine wpAnyIn_take (i := 15) (v := ?_) rfl rfl (by kernel_rfl) (by kernel_rfl) (by kernel_rfl) (fun _ _ _ h => h) ⟨Or.inl ⟨by rfl, ?_⟩, fun _ => rfl⟩ ?_
            rotate_left
            · (intro w; go_simp; try (with_reducible rfl))
            refine wpAnyIn_ready (rs := [16]) (by kernel_rfl) (by simp) ?_
            refine AllReadyIn.cons rfl (fun K hK => ?_) AllReadyIn.nil
            go_simp
            refine hK _ _ ?_
            clear hK K
            refine wpAnyIn_done (by kernel_rfl) ?_ _
            go_end0
            have y0 := hon5.cell (b := m) (by simp; omega) HNe.out 0
            have y2 := hon5.cell (b := m) (by simp; omega) HNe.out 2
            have z0 := hon5.frozen (b := m) (by simp; omega) HNe.out 0
            have z2 := hon5.frozen (b := m) (by simp; omega) HNe.out 2
            simp [go_sem, ↓IntWalk.iteOmega, mw0, Hmw2.out, Hmf0.out, Hmf2.out] at y0 y2 z0 z2
            have hOn : Only (fun k => k = m ∨ some b = some k) w W5 := ((Only.of_below (fp := fun k => k = m ∨ some b = some k) HwB.out).ext ((ext_drew wq).alloc (by simp) _)).trans hon5 (fun i _ e => .inr e)
            have hs5 := hOn.size
            have hg5' : ∀ k, g5 = some k → b = k ∨ wq.heap.size ≤ k := fun k h => by
              rcases hg5 with e | e <;> rw [e] at h
              · cases h; exact .inl rfl
              · cases h; simp
            have hMG := Hm.out
            have hS : OwnS arcRep (fun _ => False) W5 ao5 cap5 g5 42 (A ++ [(t, y)] ++ [(x1, x2)]) :=
              OwnS.snoc (w := w) (cs := arcCs (x1, x2)) HAll.out (arcRep_ok ⟨Hx.out.2.1, Hx.out.2.2⟩) (by have h := ho5; rw [← Hk.out] at h; simpa using (show Own W5 ao5 cap5 g5 42 arcRep.size (A.length + 1 + 1) (css.flatten ++ arcCs (x1, x2)) from h)) (fun _ hb => hb.elim) hs5
            have el : k + 1 + 1 = (A ++ [(t, y)] ++ [(x1, x2)]).length := by simp [Hk.out]
            refine ⟨rfl, ao5, cap5, g5, ?_, fun k h => by have := hg5' k h; rcases this with h | h; exact .inl (by rw [h]); exact .inr (by omega), hOn.setCell (fun _ => .inl rfl) _⟩
            rw [el]
            refine take_done (row := (fr, A ++ [(t, y)] ++ [(x1, x2)])) y0 u1 y2 z0 u2 z2 hS ?_ (by omega) (fun e => by have := hg5' m e; omega) ?_
            · exact hMG.rd.only hOn (fun h0 k off e h => h.elim (hMG.lne k off e h0).1 (hMG.lne k off e h0).2)
            · intro b' o e h0
              refine ⟨(hMG.lne b' o e h0).1, fun e2 => ?_⟩
              obtain ⟨b1, o', e3, hb', _⟩ := hMG.rd.pos h0
              have hne := (hMG.lne b' o e h0).2
              rw [e3] at e
              cases e
              rcases hg5' _ e2 with h | h
              · exact hne (by rw [h])
              · omega
end Go.Proofs.Ytlgnpogmgpgdaaa

namespace Go.Proofs.Ytlgnpogmgpgdaaa
set_option linter.unusedSimpArgs false
set_option linter.unusedVariables false
set_option maxRecDepth 100000
open Go.RowKit

def okRow (row : RowD) : Prop := row.1 < 4294967296 ∧ (∀ a ∈ row.2, okA a) ∧ sumA row.2 ≤ 2147483647
theorem sumA_append (l m : List ArcD) : sumA (l ++ m) = sumA l + sumA m := by simp [sumA]
theorem sumA_one (a : ArcD) : sumA [a] = a.2 := by simp [sumA]
theorem addArc_snoc (l : List ArcD) (a : ArcD) (x : EdgeD) : addArc (l ++ [a]) x = if a.1 = x.2.1 then l ++ [(a.1, a.2 + x.2.2)] else l ++ [a] ++ [(x.2.1, x.2.2)] := by
  unfold addArc
  simp only [List.getLast?_concat, List.dropLast_concat]
theorem addArc_sum (l : List ArcD) (x : EdgeD) : sumA (addArc l x) = sumA l + x.2.2 := by
  rcases List.eq_nil_or_concat l with rfl | ⟨l', a, rfl⟩
  · simp [addArc, sumA]
  · rw [List.concat_eq_append, addArc_snoc]
    split <;> simp [sumA] <;> omega
theorem addArc_len (l : List ArcD) (x : EdgeD) : (addArc l x).length ≤ l.length + 1 ∧ 0 < (addArc l x).length := by
  rcases List.eq_nil_or_concat l with rfl | ⟨l', a, rfl⟩
  · simp [addArc]
  · rw [List.concat_eq_append, addArc_snoc]
    split <;> simp
theorem takeM_len (row : RowD) (x : EdgeD) : (mtakeM row x).2.length ≤ row.2.length + 1 ∧ 0 < (mtakeM row x).2.length := by
  unfold mtakeM
  split
  · exact addArc_len _ _
  · simp
theorem takeM_from (row : RowD) (x : EdgeD) : (mtakeM row x).1 = x.1 := by
  unfold mtakeM
  split
  · rename_i h; exact h.2
  · rfl
theorem takeM_ok {row : RowD} {x : EdgeD} (h : okRow row) (hx : okE x) (hl : x.2.2 ≤ leftOf row x) : okRow (mtakeM row x) := by
  refine ⟨by rw [takeM_from]; exact hx.1, ?_⟩
  unfold leftOf at hl
  unfold mtakeM
  obtain ⟨h1, h2, h3⟩ := h
  split
  · rename_i hs
    rw [if_pos hs] at hl
    simp only
    refine ⟨?_, by rw [addArc_sum]; omega⟩
    rcases List.eq_nil_or_concat row.2 with he | ⟨l', a, he⟩
    · have := hs.1; rw [he] at this; simp at this
    · rw [List.concat_eq_append] at he
      rw [he] at h2 h3 hl ⊢
      rw [sumA_append, sumA_one] at h3 hl
      rw [addArc_snoc]
      intro y hy
      split at hy
      · rcases List.mem_append.1 hy with h | h
        · exact h2 y (List.mem_append.2 (.inl h))
        · rw [List.mem_singleton.1 h]
          exact ⟨(h2 a (by simp)).1, by simp only; omega⟩
      · rcases List.mem_append.1 hy with h | h
        · exact h2 y h
        · rw [List.mem_singleton.1 h]
          exact ⟨hx.2.1, hx.2.2⟩
  · rename_i hs
    rw [if_neg hs] at hl
    simp only
    exact ⟨fun a ha => by rw [List.mem_singleton.1 ha]; exact ⟨hx.2.1, hx.2.2⟩, by rw [sumA_one]; exact hl⟩
theorem full_not {row : RowD} {x : EdgeD} (h : fullB row x = true) : ¬ sameRow row x := by
  unfold fullB at h
  rintro ⟨h1, h2⟩
  simp [h2] at h
/-- what is told of keys: rows, and at last an error's number (0: none) -/
def mtold : RowD → List UInt8 → List (List UInt8) → List RowD × Nat
  | row, _, [] => (if 0 < row.2.length then [row] else [], 0)
  | row, last, k :: ks =>
    if mayErr row last k ≠ 0 then ([], mayErr row last k) else
    ((if fullB row (keyE k) = true then [row] else []) ++ (mtold (mtakeM row (keyE k)) k ks).1, (mtold (mtakeM row (keyE k)) k ks).2)
def toldRE (row : RowD) (last : List UInt8) (ks : List (List UInt8)) : List (RowD × Nat) :=
  (mtold row last ks).1.map (fun p => (p, 0)) ++ if (mtold row last ks).2 = 0 then [] else [((0, []), (mtold row last ks).2)]
theorem toldRE_nil (row : RowD) (last : List UInt8) : toldRE row last [] = if 0 < row.2.length then [(row, 0)] else [] := by
  unfold toldRE mtold
  split <;> simp
theorem toldRE_bad (row : RowD) (last k : List UInt8) (ks : List (List UInt8)) (h : mayErr row last k ≠ 0) : toldRE row last (k :: ks) = [((0, []), mayErr row last k)] := by
  unfold toldRE mtold
  simp [h]
theorem toldRE_ok (row : RowD) (last k : List UInt8) (ks : List (List UInt8)) (h : mayErr row last k = 0) :
    toldRE row last (k :: ks) = (if fullB row (keyE k) = true then [(row, 0)] else []) ++ toldRE (mtakeM row (keyE k)) k ks := by
  unfold toldRE
  conv => lhs; unfold mtold
  rw [if_neg (by simp [h])]
  split <;> simp
theorem mtold_len : ∀ (ks : List (List UInt8)) (row : RowD) (last : List UInt8), (mtold row last ks).1.length ≤ ks.length + 1
  | [], row, last => by unfold mtold; split <;> simp
  | k :: ks, row, last => by
    have ih := mtold_len ks (mtakeM row (keyE k)) k
    unfold mtold
    split
    · simp
    · simp only [List.length_append, List.length_cons]
      split <;> simp <;> omega
theorem toldRE_len (ks : List (List UInt8)) (row : RowD) (last : List UInt8) : (toldRE row last ks).length ≤ ks.length + 2 := by
  unfold toldRE
  have := mtold_len ks row last
  rw [List.length_append, List.length_map]
  split <;> simp <;> omega
theorem may_ok {row : RowD} {last k : List UInt8} (h : mayErr row last k = 0) : k.length = 12 ∧ (keyE k).2.2 ≠ 0 ∧ ¬ Lib.compareBytes k last < 0 ∧ (keyE k).2.2 ≤ leftOf row (keyE k) := by
  unfold mayErr at h
  split at h
  · cases h
  · rename_i h1
    split at h
    · cases h
    · rename_i h2
      split at h
      · cases h
      · rename_i h3
        exact ⟨by omega, by omega, h2, by omega⟩
/-- all rows, or the error -/
def rowsOf (ks : List (List UInt8)) : List RowD × Nat := if (mtold (0, []) [] ks).2 = 0 then ((mtold (0, []) [] ks).1, 0) else ([], (mtold (0, []) [] ks).2)
theorem toldRE_all {α : Type} {ks : List (List UInt8)} {xs : List ((RowD × Nat) × α)} (h : xs.map (·.1) = toldRE (0, []) [] ks) (h0 : ∀ x ∈ xs, x.1.2 = 0) : rowsOf ks = (xs.map (·.1.1), 0) := by
  have he : (mtold (0, []) [] ks).2 = 0 := by
    apply Decidable.byContradiction
    intro hne
    have hm : ((0, []), (mtold (0, []) [] ks).2) ∈ toldRE (0, []) [] ks := by unfold toldRE; rw [if_neg hne]; simp
    rw [← h] at hm
    obtain ⟨x, hx, hx2⟩ := List.mem_map.1 hm
    have := h0 x hx
    rw [hx2] at this
    exact hne this
  have h2 : (mtold (0, []) [] ks).1 = xs.map (·.1.1) := by
    have h3 := congrArg (List.map (·.1)) h
    unfold toldRE at h3
    rw [if_pos he, List.append_nil] at h3
    simpa [Function.comp_def] using h3.symm
  unfold rowsOf
  rw [if_pos he, h2]
theorem toldRE_stop {α : Type} {ks : List (List UInt8)} {pre : List ((RowD × Nat) × α)} {x : (RowD × Nat) × α} (h : (pre ++ [x]).map (·.1) <+: toldRE (0, []) [] ks) (h0 : x.1.2 ≠ 0) : rowsOf ks = ([], x.1.2) := by
  have hm : x.1 ∈ toldRE (0, []) [] ks := h.subset (by simp)
  unfold toldRE at hm
  rcases List.mem_append.1 hm with h1 | h1
  · obtain ⟨p, _, hp⟩ := List.mem_map.1 h1
    rw [← hp] at h0; exact absurd rfl h0
  · split at h1
    · simp at h1
    · rename_i hne
      rw [List.mem_singleton.1 h1]
      unfold rowsOf
      rw [if_neg hne]
theorem mtold_ok : ∀ (ks : List (List UInt8)) (row : RowD) (last : List UInt8), okRow row → ∀ r ∈ (mtold row last ks).1, okRow r
  | [], row, last, h, r, hr => by
    unfold mtold at hr
    simp only at hr
    split at hr
    · rw [List.mem_singleton.1 hr]; exact h
    · simp at hr
  | k :: ks, row, last, h, r, hr => by
    unfold mtold at hr
    split at hr
    · simp at hr
    · rename_i h0
      have h0 : mayErr row last k = 0 := by simpa using h0
      have ih := mtold_ok ks (mtakeM row (keyE k)) k (takeM_ok h (keyE_ok k) (may_ok h0).2.2.2)
      rcases List.mem_append.1 hr with h1 | h1
      · split at h1
        · rw [List.mem_singleton.1 h1]; exact h
        · simp at h1
      · exact ih r h1

set_option maxHeartbeats 1600000 in
theorem take_any (m : Nat) (row : RowD) (last : List UInt8) (ao : Option Addr) (cap : Nat) (g : Option Nat) (lo : Option Addr) (lc : Nat) (x : EdgeD) (w : World) (h : MG m row last ao cap g lo lc w) (hx : okE x) (hlen : row.2.length ≤ 1073741824)
    (hleft : x.2.2 ≤ leftOf row x) (hsm : sumA row.2 ≤ 2147483647) :
    Calls Try.prog 124 #[.pointer (some ⟨m, 0, none⟩), edgeV x] w fun e w' => e = .returned (.tuple #[]) ∧ ∃ ao' cap' g', MG m (mtakeM row x) last ao' cap' g' lo lc w' ∧ (∀ k, g' = some k → (sameRow row x ∧ g = some k) ∨ w.heap.size ≤ k) ∧ Only (fun k => k = m ∨ (sameRow row x ∧ g = some k)) w w' := by
  by_cases hs : sameRow row x
  · refine (take_same m row last ao cap g lo lc x w h hx hlen hleft hs hsm).mono ?_
    rintro e w' ⟨rfl, ao', cap', g', h1, h2, h3⟩
    exact ⟨rfl, ao', cap', g', h1, fun k hk => (h2 k hk).imp (fun h => ⟨hs, h⟩) id, h3.mono (fun k _ hk => hk.imp id (fun h => ⟨hs, h⟩))⟩
  · refine (take_new m row last ao cap lo lc x w h.toH hx hs).mono ?_
    rintro e w' ⟨rfl, ao', cap', g', h1, h2, h3⟩
    exact ⟨rfl, ao', cap', g', h1, fun k hk => .inr (h2 k hk), h3.mono (fun k _ hk => .inl hk)⟩
end Go.Proofs.Ytlgnpogmgpgdaaa
