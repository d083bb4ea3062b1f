/- Sums of arcs, slices.Clone, bytes.Compare. -/
import Derived.Test.YtafbjkbdfdeacaaMergeKey
import Derived.Lib.Bytealg
import Derived.Laws.Externs
import Derived.Lib.LazyBuf
namespace Go.Proofs.Ytafbjkbdfdeacaa
set_option linter.unusedSimpArgs false
set_option linter.unusedVariables false
open Go.RowKit

abbrev ArcD := Nat × Nat
def arcRep : Rep ArcD := Rep.prod Rep.u32 Rep.u32
def arcCs (x : ArcD) : List Value := [.int .u32 (x.1 : Nat), .int .u32 (x.2 : Nat)]
def okA (x : ArcD) : Prop := x.1 < 4294967296 ∧ x.2 < 4294967296
theorem arcRep_ok {W : World} {fp : Nat → Prop} {x : ArcD} (h : okA x) : arcRep.ok W fp x (arcCs x) := ⟨[_], [_], rfl, ⟨rfl, h.1⟩, ⟨rfl, h.2⟩⟩
theorem arcElem : Elem Try.prog 49 59 2 8 (.agg #[.int .u32 0, .int .u32 0]) := Elem.mk' Try.underlying49 (by kernel_rfl) rfl (by decide)
theorem RdS.arc {fp : Nat → Prop} {w : World} {ao : Option Addr} {l : List ArcD} (h : RdS arcRep fp w ao l) (k : Nat) (hk : k < l.length) :
    ∃ b off, ao = some ⟨b, off, none⟩ ∧ b < w.heap.size ∧ w.cell? ⟨b, off + k * 2, none⟩ = some (.int .u32 (l[k].1 : Nat)) ∧ w.cell? ⟨b, off + k * 2 + 1, none⟩ = some (.int .u32 (l[k].2 : Nat)) ∧ okA l[k] := by
  obtain ⟨b, off, cs, rfl, _, hb, ⟨c, d, rfl, ⟨rfl, h1⟩, ⟨rfl, h2⟩⟩, hc⟩ := h.at k hk
  exact ⟨b, off, rfl, hb, hc 0 (by decide), hc 1 (by decide), h1, h2⟩
def sumA (l : List ArcD) : Nat := (l.map (·.2)).sum
theorem sumA_take (l : List ArcD) (k : Nat) (h : k < l.length) : sumA (l.take (k + 1)) = sumA (l.take k) + l[k].2 := by
  unfold sumA
  rw [List.take_succ_eq_append_getElem h, List.map_append, List.sum_append]
  simp only [List.map_cons, List.map_nil, List.sum_cons, List.sum_nil, Nat.add_zero]
def sumI (l : List ArcD) (w : World) (s i : Value) (wr : World) : Prop := ∃ k : Nat, k ≤ l.length ∧ i = .int .i64 (k : Nat) ∧ s = .int .u64 (sumA (l.take k) : Nat) ∧ sumA (l.take k) ≤ k * 4294967296 ∧ Below w.heap.size w wr

set_option maxRecDepth 100000 in
set_option maxHeartbeats 1600000 in
theorem gsum_any (l : List ArcD) (ao : Option Addr) (cap : Nat) (fp : Nat → Prop) (w : World) (hl : l.length ≤ 1073741824) (hrd : RdS arcRep fp w ao l) :
    Calls Try.prog 59 #[.slice ao l.length cap] w fun e w' => e = .returned (.int .u64 (sumA l : Nat)) ∧ Below w.heap.size w w' := by
  have Hrd := Lib.hid hrd
  clear hrd
  go_enter Try.func59, Try.ntmps59
  go_wp2_with fail
  go_loopw [3, 8] (fun s i wr => sumI l w s i wr) (fun _ i _ => l.length - (intOf i).toNat)
  case atStart => exact ⟨0, by omega, rfl, rfl, by simp [sumA], Below.refl _ _⟩
  case round =>
    obtain ⟨k, hk, rfl, rfl, hsk, hB⟩ := hrel
    have HB := Lib.hid hB
    have hs := hB.size
    by_cases hlt : k < l.length
    · obtain ⟨b, off, rfl, hb, hc0', hc1', hok⟩ := Hrd.out.arc k hlt
      have hc0 := ((bcell hB).1 _ _ hb).trans hc0'
      have hc1 := ((bcell hB).1 _ _ hb).trans hc1'
      have hir : (k : Int) < (l.length : Int) := by omega
      have hst := sumA_take l k hlt
      clear hc0' hc1' hB
      generalize l[k] = x at hc0 hc1 hok hst
      obtain ⟨x0, x1⟩ := x
      simp only at hc0 hc1 hst
      have hx1 : x1 < 4294967296 := hok.2
      generalize sumA (l.take k) = q at hst hsk ⊢
      have Hst := Lib.hid hst
      have hq : q + x1 ≤ 4611686022722355200 := by omega
      clear hst hok
      go_wp2_with fail
      have hn : sumA (l.take (k + 1)) ≤ (k + 1) * 4294967296 := by rw [Hst.out]; omega
      exact ⟨⟨k + 1, by omega, by go_num, by rw [Hst.out]; go_num, hn, by first | exact HB.out | exact HB.out.alloc hs _⟩, by simp [intOf]; omega⟩
    · obtain rfl : k = l.length := by omega
      have e : sumA (l.take l.length) = sumA l := by rw [List.take_length]
      rw [e]
      clear e hB
      go_wp2_with fail
      go_ret
      exact ⟨rfl, HB.out⟩

set_option maxRecDepth 100000 in
set_option maxHeartbeats 1600000 in
theorem rsum_any (l : List ArcD) (ao : Option Addr) (cap : Nat) (fp : Nat → Prop) (w : World) (hl : l.length ≤ 1073741824) (hrd : RdS arcRep fp w ao l) :
    Calls Try.prog 41 #[.slice ao l.length cap] w fun e w' => e = .returned (.int .u64 (sumA l : Nat)) ∧ Below w.heap.size w w' := by
  have Hrd := Lib.hid hrd
  clear hrd
  go_enter Try.func41, Try.ntmps41
  go_wp2_with fail
  go_loopw [3, 7] (fun s i wr => sumI l w s i wr) (fun _ i _ => l.length - (intOf i).toNat)
  case atStart => exact ⟨0, by omega, rfl, rfl, by simp [sumA], Below.refl _ _⟩
  case round =>
    obtain ⟨k, hk, rfl, rfl, hsk, hB⟩ := hrel
    have HB := Lib.hid hB
    have hs := hB.size
    by_cases hlt : k < l.length
    · obtain ⟨b, off, rfl, hb, hc0', hc1', hok⟩ := Hrd.out.arc k hlt
      have hc0 := ((bcell hB).1 _ _ hb).trans hc0'
      have hc1 := ((bcell hB).1 _ _ hb).trans hc1'
      have hir : (k : Int) < (l.length : Int) := by omega
      have hst := sumA_take l k hlt
      clear hc0' hc1' hB
      generalize l[k] = x at hc0 hc1 hok hst
      obtain ⟨x0, x1⟩ := x
      simp only at hc0 hc1 hst
      have hx1 : x1 < 4294967296 := hok.2
      generalize sumA (l.take k) = q at hst hsk ⊢
      have Hst := Lib.hid hst
      have hq : q + x1 ≤ 4611686022722355200 := by omega
      clear hst hok
      go_wp2_with fail
      have hn : sumA (l.take (k + 1)) ≤ (k + 1) * 4294967296 := by rw [Hst.out]; omega
      exact ⟨⟨k + 1, by omega, by go_num, by rw [Hst.out]; go_num, hn, by first | exact HB.out | exact HB.out.alloc hs _⟩, by simp [intOf]; omega⟩
    · obtain rfl : k = l.length := by omega
      have e : sumA (l.take l.length) = sumA l := by rw [List.take_length]
      rw [e]
      clear e hB
      go_wp2_with fail
      go_ret
      exact ⟨rfl, HB.out⟩

set_option maxRecDepth 100000 in
set_option maxHeartbeats 1600000 in
theorem clone_any (l : List UInt8) (ao : Option Addr) (cap : Nat) (w : World) (h0 : 0 < l.length) (hl : l.length ≤ 1073741824) (hrd : Rd w ao l.length (byteVals l)) :
    Calls Try.prog 48 #[.slice ao l.length cap] w (RetOwn 5 1 l.length (byteVals l) w) := by
  have hE := bytesElem
  have hsrc : Src Try.prog 1 25 (.slice ao l.length cap) l.length (byteVals l) (w.alloc (.cells #[] 5)) := (hrd.ext (ext_alloc w _)).src Try.underlying25 cap (byteVals_one l)
  obtain ⟨b, off, rfl, hb, hc⟩ := hrd.pos h0
  have hnil : (binOp .eql 25 (.slice (some ⟨b, off, none⟩) l.length cap) (.slice none 0 0)).run Try.prog w = .ok (.bool false) w := Go.run_eql_slice_nil w _ _ _ _ _ Try.underlying25
  have Hsrc := Lib.hid hsrc
  clear hsrc hc hrd
  go_enter Try.func48, Try.ntmps48
  go_wp2_with (at_builtin; refine wpList_app rfl (.tmp 5) (.tmp 6) 25 25 rfl hE (Own.emptyAt w 5 1 w.heap.size rfl) rfl rfl Hsrc.out (by simp [maxLen]; omega) (by omega) ?_; intro ao4 cap4 g4 W4 ho4 hg4 hon4; obtain ⟨hG, hBB⟩ := app_blocks (w := w) (W := w.alloc (.cells #[] 5)) (fun k h => by cases h; exact Nat.le_refl _) (ext_alloc w _) hg4 hon4; have Ho4 := Lib.hid ho4; clear ho4 hg4 hon4)
  go_ret
  exact ⟨ao4, cap4, g4, by simp, by simpa using Ho4.out, hG, hBB⟩

theorem cmp_lt : ∀ (a b : List UInt8), (Lib.compareBytes a b < 0 ↔ a < b)
  | [], [] => by simp [Lib.compareBytes]
  | [], y :: ys => by simp [Lib.compareBytes]
  | x :: xs, [] => by simp [Lib.compareBytes]
  | x :: xs, y :: ys => by
    have ih := cmp_lt xs ys
    unfold Lib.compareBytes
    rw [List.cons_lt_cons_iff]
    by_cases h1 : x < y
    · simp [h1]
    · by_cases h2 : y < x
      · have : x ≠ y := fun e => by subst e; exact h1 h2
        simp [h1, h2, this]
      · have : x = y := UInt8.le_antisymm (UInt8.not_lt.1 h2) (UInt8.not_lt.1 h1)
        subst this
        simpa [h1] using ih
theorem load_bytes {P : Program} (w : World) : ∀ (l : List UInt8) (b off : Nat) (acc : ByteArray), (∀ j x, l[j]? = some x → w.cell? ⟨b, off + j, none⟩ = some (.int .u8 x.toNat)) →
    (Extern.Bytes.loadBytes ⟨b, off, none⟩ l.length acc).run P w = .ok ⟨acc.data ++ l.toArray⟩ w
  | [], b, off, acc, _ => by simp [Extern.Bytes.loadBytes]
  | x :: l, b, off, acc, h => by
    have h0 : w.cell? ⟨b, off, none⟩ = some (.int .u8 x.toNat) := by simpa using h 0 x rfl
    have ih := load_bytes (P := P) w l b (off + 1) (acc.push x) (fun j y hy => by
      have := h (j + 1) y (by simpa using hy)
      rw [show off + 1 + j = off + (j + 1) by omega]; exact this)
    have hx : ((x.toNat : Int).toNat).toUInt8 = x := by simp
    simp only [List.length_cons, Extern.Bytes.loadBytes, Sem.run_bind, run_load, h0, Result.andThen, hx, Addr.add_lit]
    rw [ih]
    congr 1
    apply ByteArray.ext
    simp
theorem bytesOf_any {P : Program} (w : World) (l : List UInt8) (ao : Option Addr) (cap : Nat) (h : Rd w ao l.length (byteVals l)) : (Extern.Bytes.bytesOf (.slice ao l.length cap)).run P w = .ok (bs l) w := by
  rcases Nat.eq_zero_or_pos l.length with h0 | h0
  · obtain rfl : l = [] := List.eq_nil_of_length_eq_zero h0
    cases ao with
    | none => rfl
    | some a => simp [Extern.Bytes.bytesOf, Extern.Bytes.loadBytes, bs]; rfl
  · obtain ⟨b, off, rfl, hb, hc⟩ := h.pos h0
    have := load_bytes (P := P) w l b off .empty (fun j x hx => by
      have hj := (List.getElem?_eq_some_iff.1 hx).1
      rw [hc j hj]
      simp [byteVals, hx])
    simp only [Extern.Bytes.bytesOf]
    rw [this]
    simp [bs]
theorem run_compareB {P : Program} (a b : List UInt8) (ao bo : Option Addr) (ca cb : Nat) (w : World) (ha : Rd w ao a.length (byteVals a)) (hb : Rd w bo b.length (byteVals b)) :
    (Extern.BytealgCompare.compare #[.slice ao a.length ca, .slice bo b.length cb]).run P w = .ok (.int .i64 (Lib.compareBytes a b)) w := by
  change Sem.run P (do pure (goInt (Extern.BytealgCompare.cmp (← Extern.Bytes.bytesOf (.slice ao a.length ca)) (← Extern.Bytes.bytesOf (.slice bo b.length cb))))) w = _
  simp only [Sem.run_bind, bytesOf_any w a ao ca ha, bytesOf_any w b bo cb hb, Sem.run_pure, Result.andThen]
  rw [Lib.cmp_eq, bs_data, bs_data]
  rfl
set_option maxRecDepth 100000 in
set_option maxHeartbeats 1600000 in
theorem bcompare_any (a b : List UInt8) (ao bo : Option Addr) (ca cb : Nat) (w : World) (ha : Rd w ao a.length (byteVals a)) (hb : Rd w bo b.length (byteVals b)) :
    Calls Try.prog 60 #[.slice ao a.length ca, .slice bo b.length cb] w fun e w' => e = .returned (.int .i64 (Lib.compareBytes a b)) ∧ w' = w := by
  go_enter Try.func60, Try.ntmps60
  go_wp2
  rw [run_callFunc_extern Try.func66 (by kernel_rfl) (by kernel_rfl) (by kernel_rfl) (e := Extern.BytealgCompare.compare) (by kernel_rfl), run_compareB a b ao bo ca cb w ha hb]
  simp only [Result.andThen]
  rw [Oper.upon_value]
  go_wp2
  go_ret
  exact ⟨rfl, rfl⟩
end Go.Proofs.Ytafbjkbdfdeacaa
