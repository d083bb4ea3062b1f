/- Texts merged into one: EdgeKey, RefKey, RefOf, MergeKey, MergeSum. -/
import Derived.Test.YtlgnpogmgpgdaaaRep
import Derived.Test.YtlgnpogmgpgdaaaKeyPlain
import Derived.Test.YtlgnpogmgpgdaaaRoundQuiet
import Derived.Test.YtlgnpogmgpgdaaaProg
import Derived.Test.YtlgnpogmgpgdaaaChecked
import Derived.Handy
import Derived.Laws.Concat
import Derived.Lib.ConvBytes
import Derived.RegionIn
import Derived.Scope
import Derived.Laws.Externs
import Derived.Laws.Strings3
import Derived.Laws.MakeOwn
import Derived.Test.YtlgnpogmgpgdaaaArc
import Derived.Lib.Bytealg
import Derived.Lib.LazyBuf
namespace Go.Proofs.Ytlgnpogmgpgdaaa
set_option linter.unusedSimpArgs false
set_option linter.unusedVariables false
set_option maxRecDepth 100000
open Go.RowKit

abbrev EdgeD := Nat × Nat × Nat
def okE (x : EdgeD) : Prop := x.1 < 4294967296 ∧ x.2.1 < 4294967296 ∧ x.2.2 < 4294967296
theorem bytesElem : Elem Try.prog 112 5 1 1 (.int .u8 0) := Elem.mk' Try.underlying112 (by kernel_rfl) rfl (by decide)
theorem Rd.only {w w' : World} {ao : Option Addr} {n : Nat} {xs : List Value} {fp : Nat → Prop} (h : Rd w ao n xs) (ho : Only fp w w') (hn : 0 < n → ∀ k off, ao = some ⟨k, off, none⟩ → ¬ fp k) : Rd w' ao n xs := by
  refine ⟨h.1, ?_⟩
  rcases Nat.eq_zero_or_pos n with h0 | h0
  · exact .inl h0
  · obtain ⟨b, off, h1, h2, h3⟩ := h.pos h0
    exact .inr ⟨b, off, h1, Nat.lt_of_lt_of_le h2 ho.size, fun j hj => (ho.cell h2 (hn h0 b off h1) (off + j)).trans (h3 j hj)⟩
theorem be4_vals (a : Nat) (ha : a < 4294967296) : byteVals (be4 a) = [.int .u8 ((a : Int) / 16777216), .int .u8 ((a : Int) / 65536 % 256), .int .u8 ((a : Int) / 256 % 256), .int .u8 ((a : Int) % 256)] := by
  simp only [byteVals, be4, List.map_cons, List.map_nil, u8n]
  have h : ((a / 16777216 % 256 : Nat) : Int) = (a : Int) / 16777216 := by omega
  rw [h]
  rfl
theorem key3_vals (a b c : Nat) : byteVals (key3 a b c) = byteVals (be4 a) ++ byteVals (be4 b) ++ byteVals (be4 c) := by simp [byteVals, key3]
theorem bits_or_u32_nat (a b : Nat) (ha : a < 4294967296) (hb : b < 4294967296) : bits .or .u32 (a : Int) (b : Int) = ((a ||| b : Nat) : Int) := by
  have hx : a ||| b < 2 ^ 32 := Nat.or_lt_two_pow (by omega) (by omega)
  have h1 : (BitVec.ofInt 32 (a : Int)).toNat = a := by
    rw [BitVec.ofInt_natCast, BitVec.toNat_ofNat]; exact Nat.mod_eq_of_lt (by omega)
  have h2 : (BitVec.ofInt 32 (b : Int)).toNat = b := by
    rw [BitVec.ofInt_natCast, BitVec.toNat_ofNat]; exact Nat.mod_eq_of_lt (by omega)
  show IntKind.u32.wrap ((BitVec.ofInt 32 (a : Int) ||| BitVec.ofInt 32 (b : Int)).toNat : Int) = _
  rw [BitVec.toNat_or, h1, h2]
  simp [IntKind.wrap, IntKind.bits, IntKind.signed]
  omega
theorem or_first (c : Nat) (h : c < 256) : bits .or .u32 0 (c : Int) = (c : Int) := by
  have := bits_or_u32_nat 0 c (by omega) (by omega)
  simpa using this
theorem or_next (x c : Nat) (hx : x < 16777216) (hc : c < 256) : bits .or .u32 ((x : Int) * 256 % 4294967296) (c : Int) = ((x * 256 + c : Nat) : Int) := by
  have h1 : (x : Int) * 256 % 4294967296 = ((x * 256 : Nat) : Int) := by omega
  rw [h1, bits_or_u32_nat _ _ (by omega) (by omega)]
  have h2 := Nat.two_pow_add_eq_or_of_lt (i := 8) hc x
  rw [Nat.mul_comm] at h2
  rw [show x * 256 = x * 2 ^ 8 from rfl, ← h2]
def numE (x : EdgeD) (j : Nat) : Nat := if j = 0 then x.1 else if j = 1 then x.2.1 else x.2.2
/-- what is printed so far -/
def prE (w : World) (B : List UInt8) (o : Value) (wr : World) : Prop :=
  ∃ ao cap g, o = .slice ao B.length cap ∧ Own wr ao cap g 5 1 B.length (byteVals B) ∧ (∀ k, g = some k → w.heap.size ≤ k) ∧ Below w.heap.size w wr
theorem srcManyE {P : Program} {tx e' : TypeId} (hk : P.underlying tx = some (.slice e')) (w : World) (cs : List Value) (t : TypeId) (k size n : Nat) (hn : n = w.heap.size) (hs : cs.length = size) (h1 : ∀ u ∈ cs, u.oneCell' = true) :
    Src P size tx (.slice (some ⟨n, 0, none⟩) 1 k) 1 cs (w.alloc (.cells cs.toArray t)) := by
  subst hn
  exact Src.ofSlice (w.alloc (.cells cs.toArray t)) hk ⟨w.heap.size, 0, none⟩ 1 k cs (by omega) (fun j u hu => by
    rw [Addr.add_lit, Nat.zero_add, World.cell?_alloc_new]
    simpa using hu) h1
def edgeRep : Rep EdgeD := Rep.prod Rep.u32 (Rep.prod Rep.u32 Rep.u32)
def edgeCs (x : EdgeD) : List Value := [.int .u32 (x.1 : Nat), .int .u32 (x.2.1 : Nat), .int .u32 (x.2.2 : Nat)]
theorem edgeRep_ok {W : World} {fp : Nat → Prop} {x : EdgeD} (h : okE x) : edgeRep.ok W fp x (edgeCs x) := ⟨[_], [_, _], rfl, ⟨rfl, h.1⟩, [_], [_], rfl, ⟨rfl, h.2.1⟩, ⟨rfl, h.2.2⟩⟩
theorem edgeElem : Elem Try.prog 46 56 3 12 (.agg #[.int .u32 0, .int .u32 0, .int .u32 0]) := Elem.mk' Try.underlying46 (by kernel_rfl) rfl (by decide)
structure EB (s : Nat) (w W : World) : Prop where
  below : Below s w W
  size : s < W.heap.size
  r0 : W.cell? ⟨s, 0, none⟩ = some (.int .u32 0)
  r1 : W.cell? ⟨s, 1, none⟩ = some (.int .u32 0)
  r2 : W.cell? ⟨s, 2, none⟩ = some (.int .u32 0)
  g0 : W.frozen? ⟨s, 0, none⟩ = false
  g1 : W.frozen? ⟨s, 1, none⟩ = false
  g2 : W.frozen? ⟨s, 2, none⟩ = false
theorem EB.ext {s : Nat} {w W W' : World} (h : EB s w W) (hB : Below W.heap.size W W') : EB s w W' := by
  obtain ⟨a, b, r0, r1, r2, g0, g1, g2⟩ := h
  have hc := (bcell hB).1
  have hf := (bcell hB).2
  have hs := hB.size
  exact ⟨a.trans (hB.mono (by omega)), by omega, (hc _ _ (by omega)).trans r0, (hc _ _ (by omega)).trans r1, (hc _ _ (by omega)).trans r2, (hf _ _ (by omega)).trans g0, (hf _ _ (by omega)).trans g1, (hf _ _ (by omega)).trans g2⟩
end Go.Proofs.Ytlgnpogmgpgdaaa

namespace Go.Proofs.Ytlgnpogmgpgdaaa
set_option linter.unusedSimpArgs false
set_option linter.unusedVariables false
set_option maxRecDepth 100000
open Go.RowKit

set_option maxRecDepth 100000 in
set_option maxHeartbeats 1600000 in
theorem four_any (a : Nat) (ha : a < 4294967296) (w : World) :
    Calls Try.prog 107 #[.int .u32 a] w (RetOwn 5 1 4 (byteVals (be4 a)) w) := by
  have hv := be4_vals a ha
  have Hv := Lib.hid hv
  clear hv
  go_enter Try.func107, Try.ntmps107
  go_wp2
  go_ret
  refine ⟨some ⟨w.heap.size, 0, none⟩, 4, some w.heap.size, rfl, ⟨rfl, .inr ⟨w.heap.size, _, rfl, rfl, heap_alloc_new w _, by omega, by simp [maxLen], rfl, ?_⟩⟩, fun k h => by cases h; exact Nat.le_refl _, ext_alloc w _⟩
  rw [Hv.out]
  rfl

set_option maxRecDepth 100000 in
set_option maxHeartbeats 1600000 in
theorem number_any (a b c d : UInt8) (bb off len cap : Nat) (w : World) (h4 : 4 ≤ len) (h0 : w.cell? ⟨bb, off, none⟩ = some (.int .u8 a.toNat)) (h1 : w.cell? ⟨bb, off + 1, none⟩ = some (.int .u8 b.toNat)) (h2 : w.cell? ⟨bb, off + 2, none⟩ = some (.int .u8 c.toNat)) (h3 : w.cell? ⟨bb, off + 3, none⟩ = some (.int .u8 d.toNat)) :
    Calls Try.prog 106 #[.slice (some ⟨bb, off, none⟩) len cap] w fun e w' => e = .returned (.int .u32 (num4 [a, b, c, d])) ∧ ∃ n, w' = w.drewN n := by
  have k0 := a.toNat_lt; have k1 := b.toNat_lt; have k2 := c.toNat_lt; have k3 := d.toNat_lt
  simp only [num4, List.foldl_cons, List.foldl_nil, Nat.zero_mul, Nat.zero_add]
  generalize a.toNat = a at *
  generalize b.toNat = b at *
  generalize c.toNat = c at *
  generalize d.toNat = d at *
  have l0 : (0 : Int) < len := by omega
  have l1 : (1 : Int) < len := by omega
  have l2 : (2 : Int) < len := by omega
  have l3 : (3 : Int) < len := by omega
  go_enter Try.func106, Try.ntmps106
  go_wp2
  go_quiet (fail)
  go_wp2
  go_ret
  refine ⟨?_, _, rfl⟩
  show Ending.returned (.int .u32 (16777216 * (a : Int) + 65536 * (b : Int) + 256 * (c : Int) + (d : Int))) = _
  congr 2
  omega

set_option maxRecDepth 100000 in
set_option maxHeartbeats 1600000 in
theorem rkey_any (a b c : Nat) (ha : a < 4294967296) (hb : b < 4294967296) (hc : c < 4294967296) (w : World) :
    Calls Try.prog 90 #[.agg #[.int .u32 a, .int .u32 b, .int .u32 c]] w (RetOwn 5 1 12 (byteVals (key3 a b c)) w) := by
  have hE := bytesElem
  have hk := Try.underlying112
  have Hk := Lib.hid hk
  clear hk
  go_enter Try.func90, Try.ntmps90
  go_wp2_with fail
  obtain ⟨wA, hwA⟩ : ∃ x, (w.alloc (Obj.cells #[Value.int IntKind.u32 a, Value.int IntKind.u32 b, Value.int IntKind.u32 c] 56)).alloc (Obj.cells #[] 5) = x := ⟨_, rfl⟩
  have ho0 : Own wA (some ⟨w.heap.size + 1, 0, none⟩) 0 (some (w.heap.size + 1)) 5 1 0 [] := by rw [← hwA]; exact Own.emptyAt _ 5 1 (w.heap.size + 1) (by simp)
  have a1 : wA.cell? ⟨w.heap.size, 1, none⟩ = some (.int .u32 b) := by rw [← hwA]; simp [go_sem, ↓IntWalk.iteOmega]
  have a2 : wA.cell? ⟨w.heap.size, 2, none⟩ = some (.int .u32 c) := by rw [← hwA]; simp [go_sem, ↓IntWalk.iteOmega]
  have hBA : Below w.heap.size w wA := by rw [← hwA]; exact (ext_alloc w _).alloc (by simp) _
  have hsA : w.heap.size + 2 ≤ wA.heap.size := by rw [← hwA]; simp
  rw [hwA]
  have Ho0 := Lib.hid ho0
  have A1 := Lib.hid a1
  have A2 := Lib.hid a2
  clear ho0 a1 a2 hwA
  go_wp2_with (first
    | (go_at_call 107; refine (four_any _ (by assumption) _).mono ?_; rintro e w1 ⟨af, cf, gf, rfl, hof, hgf, hB1⟩)
    | (at_builtin; refine wpList_app rfl (.tmp 4) (.tmp 7) 112 112 rfl hE (Ho0.out.ext hB1) rfl rfl (hof.rd.src Hk.out _ (byteVals_one _)) (by simp [maxLen]) (by omega) ?_; intro ao1 cap1 g1 w2 ho1 hg1 hon1; have hs1 := hB1.size; have hA1 : Below (w.heap.size + 1) wA w2 := (hB1.mono (by omega)).trans (hon1.below (by omega) (fun k hk e => by cases e; omega)); have hG1 : ∀ k, g1 = some k → w.heap.size + 1 ≤ k := (fun k h => by rcases hg1 with rfl | rfl <;> cases h <;> omega); have a1 := ((bcell hA1).1 w.heap.size 1 (by omega)).trans A1.out; have HG1 := Lib.hid hG1; clear hof hgf hB1 hg1 hon1 hG1)
    | (at_builtin; refine wpList_app rfl (.tmp 9) (.tmp 12) 112 112 rfl hE (ho1.ext hB1) rfl rfl (hof.rd.src Hk.out _ (byteVals_one _)) (by simp [maxLen]) (by omega) ?_; intro ao2 cap2 g2 w3 ho2 hg2 hon2; have hs1 := hB1.size; have hs2 := hA1.size; have hA2 : Below (w.heap.size + 1) wA w3 := (hA1.trans (hB1.mono (by omega))).trans (hon2.below (by omega) (fun k hk e => by have := HG1.out k e; omega)); have hG2 : ∀ k, g2 = some k → w.heap.size + 1 ≤ k := (fun k h => by rcases hg2 with rfl | rfl <;> first | exact HG1.out k h | (cases h; omega)); have a2 := ((bcell hA2).1 w.heap.size 2 (by omega)).trans A2.out; have HG2 := Lib.hid hG2; clear hof hgf hB1 hg2 hon2 hG2)
    | (at_builtin; refine wpList_app rfl (.tmp 14) (.tmp 17) 112 112 rfl hE (ho2.ext hB1) rfl rfl (hof.rd.src Hk.out _ (byteVals_one _)) (by simp [maxLen]) (by omega) ?_; intro ao3 cap3 g3 w4 ho3 hg3 hon3; have hs1 := hB1.size; have hs3 := hA2.size; have hA3 : Below (w.heap.size + 1) wA w4 := (hA2.trans (hB1.mono (by omega))).trans (hon3.below (by omega) (fun k hk e => by have := HG2.out k e; omega)); have hG3 : ∀ k, g3 = some k → w.heap.size + 1 ≤ k := (fun k h => by rcases hg3 with rfl | rfl <;> first | exact HG2.out k h | (cases h; omega)); have HG3 := Lib.hid hG3; clear hof hgf hB1 hg3 hon3 hG3))
  go_ret
  refine ⟨ao3, cap3, g3, rfl, ?_, fun k h => by have := HG3.out k h; omega, hBA.trans (hA3.mono (by omega))⟩
  rw [key3_vals]
  simpa using ho3
end Go.Proofs.Ytlgnpogmgpgdaaa

namespace Go.Proofs.Ytlgnpogmgpgdaaa
set_option linter.unusedSimpArgs false
set_option linter.unusedVariables false
set_option maxRecDepth 100000
open Go.RowKit

def edgeV (x : Nat × Nat × Nat) : Value := .agg #[.int .u32 x.1, .int .u32 x.2.1, .int .u32 x.2.2]

set_option maxRecDepth 100000 in
set_option maxHeartbeats 1600000 in
theorem rof_yes (l : List UInt8) (ao : Option Addr) (cap : Nat) (w : World) (h12 : l.length = 12) (hcap : l.length ≤ cap) (hrd : Rd w ao l.length (byteVals l)) :
    Calls Try.prog 87 #[.slice ao l.length cap] w fun e w' => e = .returned (.tuple #[edgeV (keyOf l), .bool true]) ∧ Below w.heap.size w w' := by
  obtain ⟨b, off, rfl, hb, hc⟩ := hrd.pos (by omega)
  obtain ⟨c0, c1, c2, c3, c4, c5, c6, c7, c8, c9, c10, c11, rfl⟩ := twelve l h12
  have h0 := hc 0 (by simp); have h1 := hc 1 (by simp); have h2 := hc 2 (by simp); have h3 := hc 3 (by simp)
  have h4 := hc 4 (by simp); have h5 := hc 5 (by simp); have h6 := hc 6 (by simp); have h7 := hc 7 (by simp)
  have h8 := hc 8 (by simp); have h9 := hc 9 (by simp); have h10 := hc 10 (by simp); have h11 := hc 11 (by simp)
  simp only [byteVals, List.map_cons, List.map_nil, List.getElem?_cons_zero, List.getElem?_cons_succ, Nat.add_zero] at h0 h1 h2 h3 h4 h5 h6 h7 h8 h9 h10 h11
  simp only [List.length_cons, List.length_nil] at hcap
  clear hc hrd h12
  simp only [keyOf, List.take_succ_cons, List.take_zero, List.drop_succ_cons, List.drop_zero]
  have hcap' : (12 : Int) ≤ cap := by omega
  have hcap8 : (8 : Int) ≤ cap := by omega
  have hcap4 : (4 : Int) ≤ cap := by omega
  have hn4 : ¬ cap = 4 := by omega
  have hn8 : ¬ cap = 8 := by omega
  go_enter Try.func87, Try.ntmps87
  go_wp2_with fail
  obtain ⟨wA, hwA⟩ : ∃ x, w.alloc (Obj.cells #[Value.int IntKind.u32 0, Value.int IntKind.u32 0, Value.int IntKind.u32 0] 56) = x := ⟨_, rfl⟩
  have hBA : Below w.heap.size w wA := by rw [← hwA]; exact ext_alloc w _
  have hA := fun o => (bcell hBA).1 b o hb
  rw [← hA] at h0
  rw [← hA] at h1
  rw [← hA] at h2
  rw [← hA] at h3
  rw [← hA] at h4
  rw [← hA] at h5
  rw [← hA] at h6
  rw [← hA] at h7
  rw [← hA] at h8
  rw [← hA] at h9
  rw [← hA] at h10
  rw [← hA] at h11
  have a0 : wA.cell? ⟨w.heap.size, 0, none⟩ = some (.int .u32 0) := by rw [← hwA]; simp [go_sem, ↓IntWalk.iteOmega]
  have f0 : wA.frozen? ⟨w.heap.size, 0, none⟩ = false := by rw [← hwA]; simp [go_sem, ↓IntWalk.iteOmega]
  have a1 : wA.cell? ⟨w.heap.size, 1, none⟩ = some (.int .u32 0) := by rw [← hwA]; simp [go_sem, ↓IntWalk.iteOmega]
  have f1 : wA.frozen? ⟨w.heap.size, 1, none⟩ = false := by rw [← hwA]; simp [go_sem, ↓IntWalk.iteOmega]
  have a2 : wA.cell? ⟨w.heap.size, 2, none⟩ = some (.int .u32 0) := by rw [← hwA]; simp [go_sem, ↓IntWalk.iteOmega]
  have f2 : wA.frozen? ⟨w.heap.size, 2, none⟩ = false := by rw [← hwA]; simp [go_sem, ↓IntWalk.iteOmega]
  rw [hwA]
  clear hwA hA
  go_region_held3 (fun w' => True) (trivial)
      (first
        | (go_at_call 106; (with_reducible refine (number_any c0 c1 c2 c3 b off _ _ _ (by omega) (by simp [go_sem, *]) (by simp [go_sem, *]) (by simp [go_sem, *]) (by simp [go_sem, *])).mono ?_); rintro e w1 ⟨rfl, nq, rfl⟩)
        | (go_at_call 106; (with_reducible refine (number_any c4 c5 c6 c7 b (off + 4) _ _ _ (by omega) (by simp [go_sem, *]) (by simp [go_sem, *]) (by simp [go_sem, *]) (by simp [go_sem, *])).mono ?_); rintro e w1 ⟨rfl, nq, rfl⟩)
        | (go_at_call 106; (with_reducible refine (number_any c8 c9 c10 c11 b (off + 8) _ _ _ (by omega) (by simp [go_sem, *]) (by simp [go_sem, *]) (by simp [go_sem, *]) (by simp [go_sem, *])).mono ?_); rintro e w1 ⟨rfl, nq, rfl⟩))
  go_wp2
  refine bodyPost_ret (v := .tuple #[edgeV (num4 [c0, c1, c2, c3], num4 [c4, c5, c6, c7], num4 [c8, c9, c10, c11]), .bool true]) (by simp [results, Try.results87, go_sem, cell_set_ite, a0, a1, a2, edgeV]) rfl ⟨rfl, ?_⟩
  exact (((below_drewN hBA _).setCell (by simp) _).setCell (by simp) _).setCell (by simp) _

set_option maxRecDepth 100000 in
set_option maxHeartbeats 1600000 in
theorem rof_no (n cap : Nat) (ao : Option Addr) (w : World) (h12 : n ≠ 12) :
    Calls Try.prog 87 #[.slice ao n cap] w fun e w' => e = .returned (.tuple #[edgeV (0, 0, 0), .bool false]) ∧ Below w.heap.size w w' := by
  have hd : ((n : Int) != 12) = true := by simp; omega
  go_enter Try.func87, Try.ntmps87
  go_wp2
  refine bodyPost_ret (v := .tuple #[edgeV (0, 0, 0), .bool false]) (by simp [results, Try.results87, go_sem, ↓IntWalk.iteOmega, edgeV]) rfl ⟨rfl, ?_⟩
  exact ext_alloc w _
end Go.Proofs.Ytlgnpogmgpgdaaa

namespace Go.Proofs.Ytlgnpogmgpgdaaa
set_option linter.unusedSimpArgs false
set_option linter.unusedVariables false
set_option maxRecDepth 100000
open Go.RowKit

theorem app_blocksM {w W W' : World} {g g' : Option Nat} (hg : ∀ k, g = some k → w.heap.size ≤ k) (hB : Below w.heap.size w W) (hg' : g' = g ∨ g' = some W.heap.size) (hon : Only (fun k => g = some k) W W') : (∀ k, g' = some k → w.heap.size ≤ k) ∧ Below w.heap.size w W' := by
  refine ⟨fun k h => ?_, hB.trans (hon.below hB.size (fun k hk e => by have := hg k e; omega))⟩
  rcases hg' with rfl | rfl
  · exact hg k h
  · cases h; exact hB.size

def keyP (x : EdgeD) : Nat → List UInt8
  | 0 => []
  | 1 => be4 x.1
  | 2 => be4 x.1 ++ be4 x.2.1
  | _ => key3 x.1 x.2.1 x.2.2
theorem keyP_step (x : EdgeD) (k : Nat) (h : k < 3) : keyP x (k + 1) = keyP x k ++ be4 (numE x k) := by
  match k, h with
  | 0, _ => simp [keyP, numE]
  | 1, _ => simp [keyP, numE]
  | 2, _ => simp [keyP, numE, key3]
theorem keyP_len (x : EdgeD) (k : Nat) : (keyP x k).length ≤ 12 := by
  match k with
  | 0 => simp [keyP]
  | 1 => simp [keyP, be4]
  | 2 => simp [keyP, be4]
  | _ + 3 => simp [keyP, key3, be4]
theorem be4_step (v j : Nat) (h : j < 4) : ∃ u : UInt8, (be4 v).take (j + 1) = (be4 v).take j ++ [u] ∧ u.toNat = v / 256 ^ (3 - j) % 256 := by
  match j, h with
  | 0, _ => exact ⟨UInt8.ofNat (v / 16777216), rfl, by simp [u8n]⟩
  | 1, _ => exact ⟨UInt8.ofNat (v / 65536), rfl, by simp [u8n]⟩
  | 2, _ => exact ⟨UInt8.ofNat (v / 256), rfl, by simp [u8n]⟩
  | 3, _ => exact ⟨UInt8.ofNat v, rfl, by simp [u8n]⟩

set_option maxRecDepth 100000 in
set_option maxHeartbeats 3200000 in
theorem mkey_any (a b c : Nat) (ha : a < 4294967296) (hb : b < 4294967296) (hc : c < 4294967296) (w : World) :
    Calls Try.prog 64 #[.agg #[.int .u32 a, .int .u32 b, .int .u32 c]] w (RetOwn 5 1 12 (byteVals (key3 a b c)) w) := by
  have hE := bytesElem
  have hmk : ∀ u : World, (Instr.makeSlice 112 (.int .i64 0) (.int .i64 12)).run Try.prog u = .ok (.slice (some ⟨u.heap.size, 0, none⟩) 0 12) (u.alloc (.cells #[.int .u8 0, .int .u8 0, .int .u8 0, .int .u8 0, .int .u8 0, .int .u8 0, .int .u8 0, .int .u8 0, .int .u8 0, .int .u8 0, .int .u8 0, .int .u8 0] 5)) := fun u => by kernel_rfl
  have hidx : ∀ j : Nat, j < 3 → ∀ u : World, (Instr.index 145 (.agg #[.int .u32 (a : Nat), .int .u32 (b : Nat), .int .u32 (c : Nat)]) (.int .i64 (j : Nat))).run Try.prog u = .ok (.int .u32 (numE (a, b, c) j : Nat)) u := fun j hj => by
    match j, hj with
    | 0, _ => exact fun u => by kernel_rfl
    | 1, _ => exact fun u => by kernel_rfl
    | 2, _ => exact fun u => by kernel_rfl
  have hnum : ∀ j, numE (a, b, c) j < 4294967296 := fun j => by unfold numE; split <;> (try split) <;> assumption
  have Hidx := Lib.hid hidx
  have Hnum := Lib.hid hnum
  have Hst := Lib.hid (fun k h => keyP_step (a, b, c) k h)
  have Hkl := Lib.hid (fun k => keyP_len (a, b, c) k)
  clear hidx hnum
  go_enter Try.func64, Try.ntmps64
  go_wp2_with fail
  have ho0 : Own ((w.alloc (Obj.cells #[Value.int IntKind.u32 a, Value.int IntKind.u32 b, Value.int IntKind.u32 c] 56)).alloc (.cells #[.int .u8 0, .int .u8 0, .int .u8 0, .int .u8 0, .int .u8 0, .int .u8 0, .int .u8 0, .int .u8 0, .int .u8 0, .int .u8 0, .int .u8 0, .int .u8 0] 5)) (some ⟨w.heap.size + 1, 0, none⟩) 12 (some (w.heap.size + 1)) 5 1 0 [] :=
    ⟨rfl, .inr ⟨w.heap.size + 1, _, rfl, rfl, by simpa using heap_alloc_new (w.alloc (Obj.cells #[Value.int IntKind.u32 a, Value.int IntKind.u32 b, Value.int IntKind.u32 c] 56)) _, by omega, by simp [maxLen], rfl, rfl⟩⟩
  have hW : prE w (keyP (a, b, c) 0) (.slice (some ⟨w.heap.size + 1, 0, none⟩) 0 12) ((w.alloc (Obj.cells #[Value.int IntKind.u32 a, Value.int IntKind.u32 b, Value.int IntKind.u32 c] 56)).alloc (.cells #[.int .u8 0, .int .u8 0, .int .u8 0, .int .u8 0, .int .u8 0, .int .u8 0, .int .u8 0, .int .u8 0, .int .u8 0, .int .u8 0, .int .u8 0, .int .u8 0] 5)) :=
    ⟨_, 12, _, rfl, ho0, (fun k h => by cases h; omega), (ext_alloc w _).alloc (by simp) _⟩
  have HW := Lib.hid hW
  clear ho0 hmk hW
  go_loopw [3, 15] (fun o i wr => ∃ k : Nat, k ≤ 3 ∧ i = .int .i64 (k : Nat) ∧ prE w (keyP (a, b, c) k) o wr) (fun _ i _ => 3 - (intOf i).toNat)
  case atStart => exact ⟨0, by omega, rfl, HW.out⟩
  case round =>
    clear HW
    obtain ⟨k, hk, rfl, ao', cap', g, rfl, ho, hg, hB⟩ := hrel
    by_cases hlt : k < 3
    · have hidx := Hidx.out k hlt
      have hvb := Hnum.out k
      have hst := Hst.out k hlt
      have hkl := Hkl.out k
      have hir : (k : Int) < 3 := by omega
      generalize numE (a, b, c) k = v at hidx hvb hst
      generalize hPe : keyP (a, b, c) k = P at hst ho hkl ⊢
      have hW : prE w (P ++ (be4 v).take 0) (.slice ao' P.length cap') wr := ⟨ao', cap', g, by simp, by simpa using ho, hg, hB⟩
      have HW := Lib.hid hW
      have Hst1 := Lib.hid hst
      clear hW hst ho hg hB hPe
      go_wp2_with fail
      go_loopw [3, 18] (fun o i wr2 => ∃ j : Nat, j ≤ 4 ∧ i = .int .i64 (j : Nat) ∧ prE w (P ++ (be4 v).take j) o wr2) (fun _ i _ => 4 - (intOf i).toNat)
      case atStart => exact ⟨0, by omega, rfl, HW.out⟩
      case round =>
        clear HW
        obtain ⟨j, hj, rfl, ao3, cap3, g3, rfl, ho3, hg3, hB3⟩ := hrel
        have Ho3 := Lib.hid ho3
        have Hg3 := Lib.hid hg3
        have HB3 := Lib.hid hB3
        have hs := hB3.size
        clear ho3 hg3 hB3
        by_cases hjl : j < 4
        · have hir2 : (j : Int) < 4 := by omega
          obtain ⟨u, hu1, hu2⟩ := be4_step v j hjl
          obtain ⟨Q, hQ⟩ : ∃ Q, P ++ (be4 v).take j = Q := ⟨_, rfl⟩
          have hQl := congrArg List.length hQ
          simp only [List.length_append, List.length_take] at hQl
          have hQle : Q.length ≤ 100 := by have : (be4 v).length = 4 := rfl; omega
          have Ho4 := Ho3.out
          rw [hQ] at Ho4
          have HO4 := Lib.hid Ho4
          have hT : P ++ (be4 v).take (j + 1) = Q ++ [u] := by rw [hu1, ← hQ]; simp
          have HT := Lib.hid hT
          have Hu := Lib.hid hu2
          rw [hQ]
          clear hT hu1 hu2 hQ hQl Ho3 Ho4
          have hj4 : j = 0 ∨ j = 1 ∨ j = 2 ∨ j = 3 := by omega
          rcases hj4 with h | h | h | h
          · have hsub : (3 : Int) - (j : Int) = 3 := by omega
            have hpow : 256 ^ (3 - j) = 16777216 := by rw [h]
            have Hj := Lib.hid h
            have Hpow := Lib.hid hpow
            clear h hpow
            go_wp2_with (at_builtin; refine wpList_app rfl (.tmp 21) (.tmp 28) 112 112 rfl hE (HO4.out.alloc _) rfl rfl (srcOne Try.underlying112 _ _ _ _ rfl) (by simp [maxLen]; omega) (by omega) ?_; intro ao4 cap4 g4 W4 ho4 hg4 hon4; have Ho5 := Lib.hid ho4; have Hg4 := Lib.hid hg4; have Hon4 := Lib.hid hon4; clear ho4 hg4 hon4)
            have ho5 := Ho5.out
            have huv := Hu.out
            rw [Hpow.out] at huv
            obtain ⟨hG, hBB⟩ := app_blocksM Hg3.out (HB3.out.alloc hs _) Hg4.out Hon4.out
            refine ⟨⟨j + 1, by omega, by go_num, ao4, cap4, g4, by rw [HT.out]; simp, ?_, hG, hBB⟩, by simp [intOf]; omega⟩
            rw [HT.out]
            have e : byteVals (Q ++ [u]) = byteVals Q ++ [.int .u8 (u.toNat : Nat)] := by simp [byteVals]
            rw [e, huv, List.length_append]
            have e3 : ((v / 16777216 % 256 : Nat) : Int) = (v : Int) / 16777216 := by omega
            rw [e3]
            exact ho5
          · have hsub : (3 : Int) - (j : Int) = 2 := by omega
            have hpow : 256 ^ (3 - j) = 65536 := by rw [h]
            have Hj := Lib.hid h
            have Hpow := Lib.hid hpow
            clear h hpow
            go_wp2_with (at_builtin; refine wpList_app rfl (.tmp 21) (.tmp 28) 112 112 rfl hE (HO4.out.alloc _) rfl rfl (srcOne Try.underlying112 _ _ _ _ rfl) (by simp [maxLen]; omega) (by omega) ?_; intro ao4 cap4 g4 W4 ho4 hg4 hon4; have Ho5 := Lib.hid ho4; have Hg4 := Lib.hid hg4; have Hon4 := Lib.hid hon4; clear ho4 hg4 hon4)
            have ho5 := Ho5.out
            have huv := Hu.out
            rw [Hpow.out] at huv
            obtain ⟨hG, hBB⟩ := app_blocksM Hg3.out (HB3.out.alloc hs _) Hg4.out Hon4.out
            refine ⟨⟨j + 1, by omega, by go_num, ao4, cap4, g4, by rw [HT.out]; simp, ?_, hG, hBB⟩, by simp [intOf]; omega⟩
            rw [HT.out]
            have e : byteVals (Q ++ [u]) = byteVals Q ++ [.int .u8 (u.toNat : Nat)] := by simp [byteVals]
            rw [e, huv, List.length_append]
            have e3 : ((v / 65536 % 256 : Nat) : Int) = (v : Int) / 65536 % 256 := by omega
            rw [e3]
            exact ho5
          · have hsub : (3 : Int) - (j : Int) = 1 := by omega
            have hpow : 256 ^ (3 - j) = 256 := by rw [h]
            have Hj := Lib.hid h
            have Hpow := Lib.hid hpow
            clear h hpow
            go_wp2_with (at_builtin; refine wpList_app rfl (.tmp 21) (.tmp 28) 112 112 rfl hE (HO4.out.alloc _) rfl rfl (srcOne Try.underlying112 _ _ _ _ rfl) (by simp [maxLen]; omega) (by omega) ?_; intro ao4 cap4 g4 W4 ho4 hg4 hon4; have Ho5 := Lib.hid ho4; have Hg4 := Lib.hid hg4; have Hon4 := Lib.hid hon4; clear ho4 hg4 hon4)
            have ho5 := Ho5.out
            have huv := Hu.out
            rw [Hpow.out] at huv
            obtain ⟨hG, hBB⟩ := app_blocksM Hg3.out (HB3.out.alloc hs _) Hg4.out Hon4.out
            refine ⟨⟨j + 1, by omega, by go_num, ao4, cap4, g4, by rw [HT.out]; simp, ?_, hG, hBB⟩, by simp [intOf]; omega⟩
            rw [HT.out]
            have e : byteVals (Q ++ [u]) = byteVals Q ++ [.int .u8 (u.toNat : Nat)] := by simp [byteVals]
            rw [e, huv, List.length_append]
            have e3 : ((v / 256 % 256 : Nat) : Int) = (v : Int) / 256 % 256 := by omega
            rw [e3]
            exact ho5
          · have hsub : (3 : Int) - (j : Int) = 0 := by omega
            have hpow : 256 ^ (3 - j) = 1 := by rw [h]
            have Hj := Lib.hid h
            have Hpow := Lib.hid hpow
            clear h hpow
            go_wp2_with (at_builtin; refine wpList_app rfl (.tmp 21) (.tmp 28) 112 112 rfl hE (HO4.out.alloc _) rfl rfl (srcOne Try.underlying112 _ _ _ _ rfl) (by simp [maxLen]; omega) (by omega) ?_; intro ao4 cap4 g4 W4 ho4 hg4 hon4; have Ho5 := Lib.hid ho4; have Hg4 := Lib.hid hg4; have Hon4 := Lib.hid hon4; clear ho4 hg4 hon4)
            have ho5 := Ho5.out
            have huv := Hu.out
            rw [Hpow.out] at huv
            obtain ⟨hG, hBB⟩ := app_blocksM Hg3.out (HB3.out.alloc hs _) Hg4.out Hon4.out
            refine ⟨⟨j + 1, by omega, by go_num, ao4, cap4, g4, by rw [HT.out]; simp, ?_, hG, hBB⟩, by simp [intOf]; omega⟩
            rw [HT.out]
            have e : byteVals (Q ++ [u]) = byteVals Q ++ [.int .u8 (u.toNat : Nat)] := by simp [byteVals]
            rw [e, huv, List.length_append]
            have e3 : ((v / 1 % 256 : Nat) : Int) = (v : Int) % 256 := by omega
            rw [e3]
            exact ho5
        · obtain rfl : j = 4 := by omega
          have hT : P ++ (be4 v).take 4 = keyP (a, b, c) (k + 1) := by rw [Hst1.out]; rfl
          have HT := Lib.hid hT
          rw [hT] at Ho3 ⊢
          clear hT
          go_wp2_with fail
          exact ⟨⟨k + 1, by omega, by go_num, ao3, cap3, g3, rfl, Ho3.out, Hg3.out, HB3.out⟩, by simp [intOf]; omega⟩
    · obtain rfl : k = 3 := by omega
      go_wp2_with fail
      go_ret
      exact ⟨ao', cap', g, rfl, ho, hg, hB⟩

set_option maxRecDepth 100000 in
set_option maxHeartbeats 1600000 in
theorem mof_yes (l : List UInt8) (ao : Option Addr) (cap : Nat) (w : World) (h12 : l.length = 12) (hrd : Rd w ao l.length (byteVals l)) :
    Calls Try.prog 141 #[.slice ao l.length cap] w fun e w' => e = .returned (.tuple #[edgeV (keyOf l), .int .i64 0]) ∧ Below w.heap.size w w' := by
  obtain ⟨b, off, rfl, hb, hc⟩ := hrd.pos (by omega)
  obtain ⟨c0, c1, c2, c3, c4, c5, c6, c7, c8, c9, c10, c11, rfl⟩ := twelve l h12
  have h0 := hc 0 (by simp); have h1 := hc 1 (by simp); have h2 := hc 2 (by simp); have h3 := hc 3 (by simp)
  have h4 := hc 4 (by simp); have h5 := hc 5 (by simp); have h6 := hc 6 (by simp); have h7 := hc 7 (by simp)
  have h8 := hc 8 (by simp); have h9 := hc 9 (by simp); have h10 := hc 10 (by simp); have h11 := hc 11 (by simp)
  simp only [byteVals, List.map_cons, List.map_nil, List.getElem?_cons_zero, List.getElem?_cons_succ, Nat.add_zero] at h0 h1 h2 h3 h4 h5 h6 h7 h8 h9 h10 h11
  clear hc hrd h12
  have k0 := c0.toNat_lt; have k1 := c1.toNat_lt; have k2 := c2.toNat_lt; have k3 := c3.toNat_lt; have k4 := c4.toNat_lt; have k5 := c5.toNat_lt
  have k6 := c6.toNat_lt; have k7 := c7.toNat_lt; have k8 := c8.toNat_lt; have k9 := c9.toNat_lt; have k10 := c10.toNat_lt; have k11 := c11.toNat_lt
  simp only [keyOf, num4, List.take_succ_cons, List.take_zero, List.drop_succ_cons, List.drop_zero, List.foldl_cons, List.foldl_nil, Nat.zero_mul, Nat.zero_add]
  generalize c0.toNat = c0 at *
  generalize c1.toNat = c1 at *
  generalize c2.toNat = c2 at *
  generalize c3.toNat = c3 at *
  generalize c4.toNat = c4 at *
  generalize c5.toNat = c5 at *
  generalize c6.toNat = c6 at *
  generalize c7.toNat = c7 at *
  generalize c8.toNat = c8 at *
  generalize c9.toNat = c9 at *
  generalize c10.toNat = c10 at *
  generalize c11.toNat = c11 at *
  go_enter Try.func141, Try.ntmps141
  go_wp2
  refine wp_loop_rounds 13 ?_
  iterate 13
    rw [rounds_succ]
    go_wp2
  simp only [or_first c0 k0, or_first c4 k4, or_first c8 k8, or_next _ _ (show c0 < 16777216 by omega) k1, or_next _ _ (show c4 < 16777216 by omega) k5, or_next _ _ (show c8 < 16777216 by omega) k9,
    or_next _ _ (show c0 * 256 + c1 < 16777216 by omega) k2, or_next _ _ (show c4 * 256 + c5 < 16777216 by omega) k6, or_next _ _ (show c8 * 256 + c9 < 16777216 by omega) k10,
    or_next _ _ (show (c0 * 256 + c1) * 256 + c2 < 16777216 by omega) k3, or_next _ _ (show (c4 * 256 + c5) * 256 + c6 < 16777216 by omega) k7, or_next _ _ (show (c8 * 256 + c9) * 256 + c10 < 16777216 by omega) k11]
  refine bodyPost_ret (v := .tuple #[edgeV (((c0 * 256 + c1) * 256 + c2) * 256 + c3, ((c4 * 256 + c5) * 256 + c6) * 256 + c7, ((c8 * 256 + c9) * 256 + c10) * 256 + c11), .int .i64 0]) (by simp [results, Try.results141, go_sem, ↓IntWalk.iteOmega, edgeV]) rfl ⟨rfl, ?_⟩
  exact (ext_alloc w _).alloc (by simp) _

set_option maxRecDepth 100000 in
set_option maxHeartbeats 1600000 in
theorem mof_no (n cap : Nat) (ao : Option Addr) (w : World) (h12 : n ≠ 12) :
    Calls Try.prog 141 #[.slice ao n cap] w fun e w' => e = .returned (.tuple #[edgeV (0, 0, 0), .int .i64 3]) ∧ Below w.heap.size w w' := by
  have hd : ((n : Int) != 12) = true := by simp; omega
  go_enter Try.func141, Try.ntmps141
  go_wp2
  refine bodyPost_ret (v := .tuple #[edgeV (0, 0, 0), .int .i64 3]) (by simp [results, Try.results141, go_sem, ↓IntWalk.iteOmega, edgeV]) rfl ⟨rfl, ?_⟩
  exact ext_alloc w _

def belowE (x y : EdgeD) : Bool := if x.1 = y.1 then (if x.2.1 = y.2.1 then decide (x.2.2 < y.2.2) else decide (x.2.1 < y.2.1)) else decide (x.1 < y.1)
theorem belowE_key (x y : EdgeD) (hx : okE x) (hy : okE y) : belowE x y = true ↔ key3 x.1 x.2.1 x.2.2 < key3 y.1 y.2.1 y.2.2 := by
  rw [key3_lt _ _ _ _ _ _ hx.1 hx.2.1 hx.2.2 hy.1 hy.2.1 hy.2.2]
  unfold belowE
  split
  · split
    · rw [decide_eq_true_eq]; omega
    · rw [decide_eq_true_eq]; omega
  · rw [decide_eq_true_eq]; omega

set_option maxRecDepth 100000 in
set_option maxHeartbeats 1600000 in
theorem ebelow_any (x y : EdgeD) (w : World) : Calls Try.prog 88 #[edgeV x, edgeV y] w fun e w' => e = .returned (.bool (belowE x y)) ∧ Below w.heap.size w w' := by
  obtain ⟨x0, x1, x2⟩ := x
  obtain ⟨y0, y1, y2⟩ := y
  unfold edgeV belowE
  simp only
  have hB : Below w.heap.size w ((w.alloc (Obj.cells #[Value.int IntKind.u32 x0, Value.int IntKind.u32 x1, Value.int IntKind.u32 x2] 56)).alloc (Obj.cells #[Value.int IntKind.u32 y0, Value.int IntKind.u32 y1, Value.int IntKind.u32 y2] 56)) := (ext_alloc w _).alloc (by simp) _
  have c : ∀ a b : Nat, decide ((a : Int) < (b : Int)) = decide (a < b) := fun a b => by rw [decide_eq_decide]; omega
  by_cases h0 : x0 = y0
  · have d0 : ((x0 : Int) != (y0 : Int)) = false := by simp [h0]
    rw [if_pos h0]
    by_cases h1 : x1 = y1
    · have d1 : ((x1 : Int) != (y1 : Int)) = false := by simp [h1]
      rw [if_pos h1]
      have HC := Lib.hid (c x2 y2)
      clear c h0 h1
      go_enter Try.func88, Try.ntmps88
      go_wp2
      go_ret
      exact ⟨by first | rfl | (rw [← HC.out]), hB⟩
    · have d1 : ((x1 : Int) != (y1 : Int)) = true := by simp; omega
      rw [if_neg h1]
      have HC := Lib.hid (c x1 y1)
      clear c h0 h1
      go_enter Try.func88, Try.ntmps88
      go_wp2
      go_ret
      exact ⟨by first | rfl | (rw [← HC.out]), hB⟩
  · have d0 : ((x0 : Int) != (y0 : Int)) = true := by simp; omega
    rw [if_neg h0]
    have HC := Lib.hid (c x0 y0)
    clear c h0
    go_enter Try.func88, Try.ntmps88
    go_wp2
    go_ret
    exact ⟨by first | rfl | (rw [← HC.out]), hB⟩
end Go.Proofs.Ytlgnpogmgpgdaaa

namespace Go.Proofs.Ytlgnpogmgpgdaaa
set_option linter.unusedSimpArgs false
set_option linter.unusedVariables false
set_option maxRecDepth 100000
open Go.RowKit

set_option maxRecDepth 100000 in
set_option maxHeartbeats 1600000 in
theorem clone_any (l : List UInt8) (ao : Option Addr) (cap : Nat) (w : World) (h0 : 0 < l.length) (hl : l.length ≤ 1073741824) (hrd : Rd w ao l.length (byteVals l)) :
    Calls Try.prog 125 #[.slice ao l.length cap] w (RetOwn 5 1 l.length (byteVals l) w) := by
  have hE := bytesElem
  have hsrc : Src Try.prog 1 112 (.slice ao l.length cap) l.length (byteVals l) (w.alloc (.cells #[] 5)) := (hrd.ext (ext_alloc w _)).src Try.underlying112 cap (byteVals_one l)
  obtain ⟨b, off, rfl, hb, hc⟩ := hrd.pos h0
  have hnil : (binOp .eql 112 (.slice (some ⟨b, off, none⟩) l.length cap) (.slice none 0 0)).run Try.prog w = .ok (.bool false) w := Go.run_eql_slice_nil w _ _ _ _ _ Try.underlying112
  have Hsrc := Lib.hid hsrc
  clear hsrc hc hrd
  go_enter Try.func125, Try.ntmps125
  go_wp2_with (at_builtin; refine wpList_app rfl (.tmp 5) (.tmp 6) 112 112 rfl hE (Own.emptyAt w 5 1 w.heap.size rfl) rfl rfl Hsrc.out (by simp [maxLen]; omega) (by omega) ?_; intro ao4 cap4 g4 W4 ho4 hg4 hon4; obtain ⟨hG, hBB⟩ := app_blocksM (w := w) (W := w.alloc (.cells #[] 5)) (fun k h => by cases h; exact Nat.le_refl _) (ext_alloc w _) hg4 hon4; have Ho4 := Lib.hid ho4; clear ho4 hg4 hon4)
  go_ret
  exact ⟨ao4, cap4, g4, by simp, by simpa using Ho4.out, hG, hBB⟩

theorem cmp_lt : ∀ (a b : List UInt8), (Lib.compareBytes a b < 0 ↔ a < b)
  | [], [] => by simp [Lib.compareBytes]
  | [], y :: ys => by simp [Lib.compareBytes]
  | x :: xs, [] => by simp [Lib.compareBytes]
  | x :: xs, y :: ys => by
    have ih := cmp_lt xs ys
    unfold Lib.compareBytes
    rw [List.cons_lt_cons_iff]
    by_cases h1 : x < y
    · simp [h1]
    · by_cases h2 : y < x
      · have : x ≠ y := fun e => by subst e; exact h1 h2
        simp [h1, h2, this]
      · have : x = y := UInt8.le_antisymm (UInt8.not_lt.1 h2) (UInt8.not_lt.1 h1)
        subst this
        simpa [h1] using ih
theorem load_bytes {P : Program} (w : World) : ∀ (l : List UInt8) (b off : Nat) (acc : ByteArray), (∀ j x, l[j]? = some x → w.cell? ⟨b, off + j, none⟩ = some (.int .u8 x.toNat)) →
    (Extern.Bytes.loadBytes ⟨b, off, none⟩ l.length acc).run P w = .ok ⟨acc.data ++ l.toArray⟩ w
  | [], b, off, acc, _ => by simp [Extern.Bytes.loadBytes]
  | x :: l, b, off, acc, h => by
    have h0 : w.cell? ⟨b, off, none⟩ = some (.int .u8 x.toNat) := by simpa using h 0 x rfl
    have ih := load_bytes (P := P) w l b (off + 1) (acc.push x) (fun j y hy => by
      have := h (j + 1) y (by simpa using hy)
      rw [show off + 1 + j = off + (j + 1) by omega]; exact this)
    have hx : ((x.toNat : Int).toNat).toUInt8 = x := by simp
    simp only [List.length_cons, Extern.Bytes.loadBytes, Sem.run_bind, run_load, h0, Result.andThen, hx, Addr.add_lit]
    rw [ih]
    congr 1
    apply ByteArray.ext
    simp
theorem bytesOf_any {P : Program} (w : World) (l : List UInt8) (ao : Option Addr) (cap : Nat) (h : Rd w ao l.length (byteVals l)) : (Extern.Bytes.bytesOf (.slice ao l.length cap)).run P w = .ok (bs l) w := by
  rcases Nat.eq_zero_or_pos l.length with h0 | h0
  · obtain rfl : l = [] := List.eq_nil_of_length_eq_zero h0
    cases ao with
    | none => rfl
    | some a => simp [Extern.Bytes.bytesOf, Extern.Bytes.loadBytes, bs]; rfl
  · obtain ⟨b, off, rfl, hb, hc⟩ := h.pos h0
    have := load_bytes (P := P) w l b off .empty (fun j x hx => by
      have hj := (List.getElem?_eq_some_iff.1 hx).1
      rw [hc j hj]
      simp [byteVals, hx])
    simp only [Extern.Bytes.bytesOf]
    rw [this]
    simp [bs]
theorem run_compareB {P : Program} (a b : List UInt8) (ao bo : Option Addr) (ca cb : Nat) (w : World) (ha : Rd w ao a.length (byteVals a)) (hb : Rd w bo b.length (byteVals b)) :
    (Extern.BytealgCompare.compare #[.slice ao a.length ca, .slice bo b.length cb]).run P w = .ok (.int .i64 (Lib.compareBytes a b)) w := by
  change Sem.run P (do pure (goInt (Extern.BytealgCompare.cmp (← Extern.Bytes.bytesOf (.slice ao a.length ca)) (← Extern.Bytes.bytesOf (.slice bo b.length cb))))) w = _
  simp only [Sem.run_bind, bytesOf_any w a ao ca ha, bytesOf_any w b bo cb hb, Sem.run_pure, Result.andThen]
  rw [Lib.cmp_eq, bs_data, bs_data]
  rfl
set_option maxRecDepth 100000 in
set_option maxHeartbeats 1600000 in
theorem bcompare_any (a b : List UInt8) (ao bo : Option Addr) (ca cb : Nat) (w : World) (ha : Rd w ao a.length (byteVals a)) (hb : Rd w bo b.length (byteVals b)) :
    Calls Try.prog 66 #[.slice ao a.length ca, .slice bo b.length cb] w fun e w' => e = .returned (.int .i64 (Lib.compareBytes a b)) ∧ w' = w := by
  go_enter Try.func66, Try.ntmps66
  go_wp2
  rw [run_callFunc_extern Try.func94 (by kernel_rfl) (by kernel_rfl) (by kernel_rfl) (e := Extern.BytealgCompare.compare) (by kernel_rfl), run_compareB a b ao bo ca cb w ha hb]
  simp only [Result.andThen]
  rw [Oper.upon_value]
  go_wp2
  go_ret
  exact ⟨rfl, rfl⟩
end Go.Proofs.Ytlgnpogmgpgdaaa
