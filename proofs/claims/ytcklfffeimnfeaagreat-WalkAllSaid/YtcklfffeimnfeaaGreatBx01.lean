/- Texts merged into one: Arc, RetB, JobPlain, MapW, JobNumsP. -/
import Derived.Test.YtcklfffeimnfeaaGreatBx00
import Derived.Test.YtcklfffeimnfeaaGreatChecked
import Derived.Laws.IdiomRangeMap
import Derived.MapKept
set_option maxRecDepth 100000
set_option maxHeartbeats 12800000
set_option linter.unusedSimpArgs false
set_option linter.unusedVariables false
namespace Go.Proofs.YtcklfffeimnfeaaGreat
open Go.RowKit

abbrev ArcD := Nat × Nat
def arcRep : Rep ArcD := Rep.prod Rep.u32 Rep.u32
def arcCs (x : ArcD) : List Value := [.int .u32 (x.1 : Nat), .int .u32 (x.2 : Nat)]
def okA (x : ArcD) : Prop := x.1 < 4294967296 ∧ x.2 < 4294967296
theorem arcRep_ok {W : World} {fp : Nat → Prop} {x : ArcD} (h : okA x) : arcRep.ok W fp x (arcCs x) := ⟨[_], [_], rfl, ⟨rfl, h.1⟩, ⟨rfl, h.2⟩⟩
theorem arcElem : Elem Tryz.prog 49 85 2 8 (.agg #[.int .u32 0, .int .u32 0]) := Elem.mk' Tryz.underlying49 (by kernel_rfl) rfl (by decide)
theorem RdS.arc {fp : Nat → Prop} {w : World} {ao : Option Addr} {l : List ArcD} (h : RdS arcRep fp w ao l) (k : Nat) (hk : k < l.length) :
    ∃ b off, ao = some ⟨b, off, none⟩ ∧ b < w.heap.size ∧ w.cell? ⟨b, off + k * 2, none⟩ = some (.int .u32 (l[k].1 : Nat)) ∧ w.cell? ⟨b, off + k * 2 + 1, none⟩ = some (.int .u32 (l[k].2 : Nat)) ∧ okA l[k] := by
  obtain ⟨b, off, cs, rfl, _, hb, ⟨c, d, rfl, ⟨rfl, h1⟩, ⟨rfl, h2⟩⟩, hc⟩ := h.at k hk
  exact ⟨b, off, rfl, hb, hc 0 (by decide), hc 1 (by decide), h1, h2⟩
def sumA (l : List ArcD) : Nat := (l.map (·.2)).sum
theorem sumA_take (l : List ArcD) (k : Nat) (h : k < l.length) : sumA (l.take (k + 1)) = sumA (l.take k) + l[k].2 := by
  unfold sumA
  rw [List.take_succ_eq_append_getElem h, List.map_append, List.sum_append]
  simp only [List.map_cons, List.map_nil, List.sum_cons, List.sum_nil, Nat.add_zero]
def sumI (l : List ArcD) (w : World) (s i : Value) (wr : World) : Prop := ∃ k : Nat, k ≤ l.length ∧ i = .int .i64 (k : Nat) ∧ s = .int .u64 (sumA (l.take k) : Nat) ∧ sumA (l.take k) ≤ k * 4294967296 ∧ Below w.heap.size w wr

theorem gsum_any (l : List ArcD) (ao : Option Addr) (cap : Nat) (fp : Nat → Prop) (w : World) (hl : l.length ≤ 1073741824) (hrd : RdS arcRep fp w ao l) :
    Calls Tryz.prog 84 #[.slice ao l.length cap] w fun e w' => e = .returned (.int .u64 (sumA l : Nat)) ∧ Below w.heap.size w w' := by
  have Hrd := Lib.hid hrd
  clear hrd
  go_enter Tryz.func84, Tryz.ntmps84
  go_wp2_with fail
  go_loopw [3, 8] (fun s i wr => sumI l w s i wr) (fun _ i _ => l.length - (intOf i).toNat)
  case atStart => exact ⟨0, by omega, rfl, rfl, by simp [sumA], Below.refl _ _⟩
  case round =>
    obtain ⟨k, hk, rfl, rfl, hsk, hB⟩ := hrel
    have HB := Lib.hid hB
    have hs := hB.size
    by_cases hlt : k < l.length
    · obtain ⟨b, off, rfl, hb, hc0', hc1', hok⟩ := Hrd.out.arc k hlt
      have hc0 := ((bcell hB).1 _ _ hb).trans hc0'
      have hc1 := ((bcell hB).1 _ _ hb).trans hc1'
      have hir : (k : Int) < (l.length : Int) := by omega
      have hst := sumA_take l k hlt
      clear hc0' hc1' hB
      generalize l[k] = x at hc0 hc1 hok hst
      obtain ⟨x0, x1⟩ := x
      simp only at hc0 hc1 hst
      have hx1 : x1 < 4294967296 := hok.2
      generalize sumA (l.take k) = q at hst hsk ⊢
      have Hst := Lib.hid hst
      have hq : q + x1 ≤ 4611686022722355200 := by omega
      clear hst hok
      go_wp2_with fail
      have hn : sumA (l.take (k + 1)) ≤ (k + 1) * 4294967296 := by rw [Hst.out]; omega
      exact ⟨⟨k + 1, by omega, by go_num, by rw [Hst.out]; go_num, hn, by first | exact HB.out | exact HB.out.alloc hs _⟩, by simp [intOf]; omega⟩
    · obtain rfl : k = l.length := by omega
      have e : sumA (l.take l.length) = sumA l := by rw [List.take_length]
      rw [e]
      clear e hB
      go_wp2_with fail
      go_ret
      exact ⟨rfl, HB.out⟩

theorem rsum_any (l : List ArcD) (ao : Option Addr) (cap : Nat) (fp : Nat → Prop) (w : World) (hl : l.length ≤ 1073741824) (hrd : RdS arcRep fp w ao l) :
    Calls Tryz.prog 56 #[.slice ao l.length cap] w fun e w' => e = .returned (.int .u64 (sumA l : Nat)) ∧ Below w.heap.size w w' := by
  have Hrd := Lib.hid hrd
  clear hrd
  go_enter Tryz.func56, Tryz.ntmps56
  go_wp2_with fail
  go_loopw [3, 7] (fun s i wr => sumI l w s i wr) (fun _ i _ => l.length - (intOf i).toNat)
  case atStart => exact ⟨0, by omega, rfl, rfl, by simp [sumA], Below.refl _ _⟩
  case round =>
    obtain ⟨k, hk, rfl, rfl, hsk, hB⟩ := hrel
    have HB := Lib.hid hB
    have hs := hB.size
    by_cases hlt : k < l.length
    · obtain ⟨b, off, rfl, hb, hc0', hc1', hok⟩ := Hrd.out.arc k hlt
      have hc0 := ((bcell hB).1 _ _ hb).trans hc0'
      have hc1 := ((bcell hB).1 _ _ hb).trans hc1'
      have hir : (k : Int) < (l.length : Int) := by omega
      have hst := sumA_take l k hlt
      clear hc0' hc1' hB
      generalize l[k] = x at hc0 hc1 hok hst
      obtain ⟨x0, x1⟩ := x
      simp only at hc0 hc1 hst
      have hx1 : x1 < 4294967296 := hok.2
      generalize sumA (l.take k) = q at hst hsk ⊢
      have Hst := Lib.hid hst
      have hq : q + x1 ≤ 4611686022722355200 := by omega
      clear hst hok
      go_wp2_with fail
      have hn : sumA (l.take (k + 1)) ≤ (k + 1) * 4294967296 := by rw [Hst.out]; omega
      exact ⟨⟨k + 1, by omega, by go_num, by rw [Hst.out]; go_num, hn, by first | exact HB.out | exact HB.out.alloc hs _⟩, by simp [intOf]; omega⟩
    · obtain rfl : k = l.length := by omega
      have e : sumA (l.take l.length) = sumA l := by rw [List.take_length]
      rw [e]
      clear e hB
      go_wp2_with fail
      go_ret
      exact ⟨rfl, HB.out⟩

end Go.Proofs.YtcklfffeimnfeaaGreat

namespace Go.Proofs.YtcklfffeimnfeaaGreat
open Go.RowKit
def RetB (v : Value) (w : World) (e : Ending) (w' : World) : Prop := e = .returned v ∧ Below w.heap.size w w'
end Go.Proofs.YtcklfffeimnfeaaGreat

namespace Go.Proofs.YtcklfffeimnfeaaGreat
open Go.RowKit

structure JobD where
  kind : Nat
  seed : Nat
  length : Nat
  walks : Nat
  src : List Nat
  stop : Nat
  od : Nat
  p : Nat
  q : Nat
  tries : Nat
  best : Nat
  bsh : Nat
  bro : Nat
  bpo : Nat
  bso : Nat
structure JobOk (j : JobD) : Prop where
  kind : j.kind < 256
  seed : j.seed < 18446744073709551616
  length : j.length < 4294967296
  walks : j.walks < 4294967296
  src : ∀ x ∈ j.src, x < 4294967296
  stop : j.stop < 4294967296
  od : j.od < 4294967296
  p : j.p < 4294967296
  q : j.q < 4294967296
  tries : j.tries < 4294967296
  best : j.best < 4294967296
  bsh : j.bsh < 4294967296
  bro : j.bro < 4294967296
  bpo : j.bpo < 4294967296
  bso : j.bso < 4294967296
/-- a job's cells -/
def jobCs (j : JobD) (ao : Option Addr) (cap : Nat) : Array Value :=
  #[.int .u8 (j.kind : Nat), .int .u64 (j.seed : Nat), .int .u32 (j.length : Nat), .int .u32 (j.walks : Nat), .slice ao j.src.length cap, .int .u32 (j.stop : Nat), .int .u32 (j.od : Nat), .int .u32 (j.p : Nat), .int .u32 (j.q : Nat),
    .int .u32 (j.tries : Nat), .int .u32 (j.best : Nat), .int .u32 (j.bsh : Nat), .int .u32 (j.bro : Nat), .int .u32 (j.bpo : Nat), .int .u32 (j.bso : Nat)]
/-- the numbers of a job, by their cells -/
def jobC (j : JobD) : Nat → Nat
  | 2 => j.length
  | 3 => j.walks
  | 5 => j.stop
  | 6 => j.od
  | 7 => j.p
  | 8 => j.q
  | 9 => j.tries
  | 10 => j.best
  | 11 => j.bsh
  | 12 => j.bro
  | 13 => j.bpo
  | 14 => j.bso
  | _ => 0
/-- by words: cells, least and greatest numbers -/
def numTab : List (List UInt8 × List (Nat × Nat × Nat)) :=
  [([108, 101, 110, 103, 116, 104], [(2, 0, 65536)]),
   ([119, 97, 108, 107, 115], [(3, 1, 65536)]),
   ([114, 101, 115, 116, 97, 114, 116], [(5, 0, 4294967295), (6, 1, 4294967295)]),
   ([98, 105, 97, 115], [(7, 1, 65536), (8, 1, 65536)]),
   ([116, 114, 105, 101, 115], [(9, 1, 1024)]),
   ([98, 101, 115, 116], [(10, 0, 1024)]),
   ([115, 104, 97, 114, 100], [(11, 1, 65536)]),
   ([114, 111, 111, 109], [(12, 1, 16777216)]),
   ([112, 111, 111, 108], [(13, 2, 65536)]),
   ([115, 111, 114, 116], [(14, 1, 4096)])]
def inB (n a b : Nat) : Bool := decide (a ≤ n ∧ n ≤ b)
def allNums (j : JobD) : Bool := numTab.all (fun e => e.2.all (fun x => inB (jobC j x.1) x.2.1 x.2.2))
def walkB (j : JobD) : Bool := decide (j.kind ≤ 2) && inB j.length 0 65536 && inB j.walks 1 65536 && decide (1 ≤ j.od) && decide (j.stop ≤ j.od)
def secB (j : JobD) : Bool := inB j.p 1 65536 && inB j.q 1 65536 && inB j.tries 1 1024 && decide (j.best ≤ 1024)
def budB (j : JobD) : Bool := inB j.bsh 1 65536 && inB j.bro 1 16777216 && inB j.bpo 2 65536 && inB j.bso 1 4096
def srcB (l : List Nat) : Bool := decide (1 ≤ l.length) && decide (l.length ≤ 256) && decide l.Nodup
/-- may a job be? -/
def mayJ (j : JobD) : Bool := walkB j && secB j && budB j && srcB j.src
theorem mayJ_nums {j : JobD} (h : JobOk j) : mayJ j = (decide (j.kind < 3) && decide (j.stop ≤ j.od) && decide (0 < j.src.length) && decide (j.src.length ≤ 256) && allNums j && decide j.src.Nodup) := by
  have h1 := h.od
  have h2 := h.stop
  rw [Bool.eq_iff_iff]
  simp only [mayJ, walkB, secB, budB, srcB, allNums, numTab, inB, jobC, List.all_cons, List.all_nil, Bool.and_true, Bool.and_eq_true, decide_eq_true_eq]
  constructor
  · rintro ⟨⟨⟨⟨⟨⟨⟨a1, a2⟩, a3⟩, a4⟩, a5⟩, ⟨⟨b1, b2⟩, b3⟩, b4⟩, ⟨⟨c1, c2⟩, c3⟩, c4⟩, ⟨d1, d2⟩, d3⟩
    refine ⟨⟨⟨⟨⟨by omega, a5⟩, by omega⟩, d2⟩, ?_⟩, d3⟩
    refine ⟨a2, a3, ⟨⟨by omega, by omega⟩, a4, by omega⟩, ⟨b1, b2⟩, b3, ⟨by omega, b4⟩, c1, c2, c3, c4⟩
  · rintro ⟨⟨⟨⟨⟨a1, a5⟩, d1⟩, d2⟩, ⟨a2, a3, ⟨x1, a4, x2⟩, ⟨b1, b2⟩, b3, ⟨x3, b4⟩, c1, c2, c3, c4⟩⟩, d3⟩
    exact ⟨⟨⟨⟨⟨⟨⟨by omega, a2⟩, a3⟩, a4⟩, a5⟩, ⟨⟨b1, b2⟩, b3⟩, b4⟩, ⟨⟨c1, c2⟩, c3⟩, c4⟩, ⟨by omega, d2⟩, d3⟩
/-- how many walkers -/
def walkersJ (j : JobD) : Nat := if mayJ j then j.src.length * j.walks else 0
theorem walkersJ_le {j : JobD} (h : mayJ j = true) : j.src.length * j.walks ≤ 16777216 := by
  simp only [mayJ, walkB, srcB, inB, Bool.and_eq_true, decide_eq_true_eq] at h
  obtain ⟨⟨⟨⟨⟨⟨⟨a1, a2⟩, a3, a3'⟩, a4⟩, a5⟩, _⟩, _⟩, ⟨d1, d2⟩, d3⟩ := h
  calc j.src.length * j.walks ≤ 256 * 65536 := Nat.mul_le_mul d2 a3'
    _ = 16777216 := rfl
end Go.Proofs.YtcklfffeimnfeaaGreat

namespace Go.Proofs.YtcklfffeimnfeaaGreat
open Go.RowKit

/-- block b is a map of these entries; its next stamp is clk -/
def MapIs (w : World) (b : Nat) (es : List MapEntry) (clk : Nat) : Prop := w.heap[b]? = some (.map es.toArray clk)
theorem MapIs.lt {w : World} {b : Nat} {es : List MapEntry} {clk : Nat} (h : MapIs w b es clk) : b < w.heap.size := (Array.getElem?_eq_some_iff.1 h).1
theorem MapIs.keep {w w' : World} {b : Nat} {es : List MapEntry} {clk : Nat} (h : MapIs w b es clk) (hk : w'.heap[b]? = w.heap[b]?) : MapIs w' b es clk := hk.trans h
theorem MapIs.ext {w w' : World} {b : Nat} {es : List MapEntry} {clk : Nat} (h : MapIs w b es clk) (hB : Below w.heap.size w w') : MapIs w' b es clk := h.keep (hB.block b h.lt)

/-- block r is a range over map m, which has handed out the stamps seen -/
def IterIs (w : World) (r m clk : Nat) (seen : Array Nat) : Prop := w.heap[r]? = some (.mapIter (some m) clk seen clk)
theorem IterIs.lt {w : World} {r m clk : Nat} {seen : Array Nat} (h : IterIs w r m clk seen) : r < w.heap.size := (Array.getElem?_eq_some_iff.1 h).1
theorem IterIs.keep {w w' : World} {r m clk : Nat} {seen : Array Nat} (h : IterIs w r m clk seen) (hk : w'.heap[r]? = w.heap[r]?) : IterIs w' r m clk seen := hk.trans h
theorem IterIs.ext {w w' : World} {r m clk : Nat} {seen : Array Nat} (h : IterIs w r m clk seen) (hB : Below w.heap.size w w') : IterIs w' r m clk seen := h.keep (hB.block r h.lt)
theorem IterIs.iterSeen {w : World} {r m clk : Nat} {seen : Array Nat} (h : IterIs w r m clk seen) : w.iterSeen r = seen := by
  unfold World.iterSeen
  rw [show w.heap[r]? = _ from h]

section
variable {P : Program}
theorem run_range_is {w : World} {t k e : TypeId} {b clk : Nat} {es : List MapEntry} (ht : P.underlying t = some (.map k e)) (h : MapIs w b es clk) :
    (Instr.range t (.map (some b))).run P w = .ok (.pointer (some ⟨w.heap.size, 0, none⟩)) (w.alloc (.mapIter (some b) clk #[] clk)) := run_range_map w t k e b es.toArray clk ht h
theorem run_entry_is {w : World} {r b clk : Nat} {seen : Array Nat} {es : List MapEntry} {e : MapEntry} (hr : IterIs w r b clk (seen.push e.born)) (hb : MapIs w b es clk) (he : e ∈ es) (hn : (es.map (·.born)).Nodup) :
    (Instr.entry (.pointer (some ⟨r, 0, none⟩))).run P w = .ok (.tuple #[e.key, e.val]) w := by
  have hf : es.toArray.find? (·.born == e.born) = some e := by rw [← Array.find?_toList]; exact find_born e es hn he
  unfold IterIs at hr
  unfold MapIs at hb
  simp only [Instr.entry, getObj, Sem.run_bind, Sem.run, hr, hb, Result.andThen, Array.back?_push, bne_self_eq_false, Bool.false_eq_true, if_false, hf]
  rfl
theorem run_next_is {w : World} {r b clk : Nat} {seen : Array Nat} {es : List MapEntry} (hr : IterIs w r b clk seen) (hb : MapIs w b es clk) (hold : ∀ x ∈ es, x.born < clk) (ty : TypeId) :
    ((leftOf es.toArray seen).size = 0 ∧ (Instr.next (.pointer (some ⟨r, 0, none⟩)) false ty).run P w = .ok (.tuple #[.bool false]) w) ∨
    ∃ e ∈ (leftOf es.toArray seen).toList, ∃ w' : World, (Instr.next (.pointer (some ⟨r, 0, none⟩)) false ty).run P w = .ok (.tuple #[.bool true, e.key, e.val]) w' ∧ IterIs w' r b clk (seen.push e.born) ∧ Only (fun k => k = r) w w' ∧ w'.heap.size = w.heap.size := by
  have hold' : ∀ x ∈ es.toArray.toList, x.born < clk := fun x hx => hold x (by simpa using hx)
  unfold IterIs at hr
  unfold MapIs at hb
  simp only [Instr.next, getObj, Sem.run_bind, Sem.run, hr, hb, Result.andThen, next_test_false seen es.toArray clk clk hold' (Nat.le_refl _), Bool.false_eq_true, if_false]
  unfold leftOf
  have hmem : ∀ x ∈ (Array.filter (fun e => !seen.contains e.born) es.toArray).toList, x.born < clk := fun x hx => hold x (by simp at hx; exact hx.1)
  generalize Array.filter (fun e => !seen.contains e.born) es.toArray = L at hmem ⊢
  have e1 : L.filter (fun x => decide (x.born < clk)) = L := Array.filter_eq_self.2 (fun x hx => by simpa using hmem x (by simpa using hx))
  have e2 : L.filter (fun x => decide (x.born ≥ clk)) = #[] := by
    rw [Array.filter_eq_empty_iff]
    intro x hx
    have := hmem x (by simpa using hx)
    simp
    omega
  simp only [e1, e2, Array.append_empty]
  by_cases h0 : L.size = 0
  · left
    have : L = #[] := Array.eq_empty_of_size_eq_zero h0
    subst this
    refine ⟨rfl, ?_⟩
    simp [choose, Sem.run, Question.forced]
  · right
    have hne : L.isEmpty = false := by simp [Array.isEmpty, h0]
    simp only [hne, Bool.false_eq_true, if_false, Array.empty_append, Array.size_map]
    have hch : ∃ (j : Nat) (w1 : World), j < L.size ∧ (w1 = w ∨ w1 = w.drew) ∧ (choose (Question.mapNext L.size)).run P w = .ok j w1 := by
      by_cases hf : L.size ≤ 1
      · exact ⟨0, w, by omega, .inl rfl, by simp [choose, Sem.run, Question.forced, hf]⟩
      · exact ⟨_, w.drew, Nat.mod_lt _ (by omega), .inr rfl, by
          simp only [choose, Sem.run, Question.forced, decide_eq_true_eq, hf, if_false, Question.cut]
          rfl⟩
    obtain ⟨j, w1, hj, hal, hrun⟩ := hch
    have hh : w1.heap = w.heap := by rcases hal with h | h <;> rw [h] <;> rfl
    have hr1 : w1.heap[r]? = some (.mapIter (some b) clk seen clk) := by rw [hh]; exact hr
    have hrl : r < w.heap.size := (Array.getElem?_eq_some_iff.1 hr).1
    refine ⟨L[j], by simp, { w1 with heap := w1.heap.setIfInBounds r (.mapIter (some b) clk (seen.push L[j].born) clk) }, ?_, ?_, ?_, ?_⟩
    · have hset : (setObj r (.mapIter (some b) clk (seen.push L[j].born) clk)).run P w1 = .ok () { w1 with heap := w1.heap.setIfInBounds r (.mapIter (some b) clk (seen.push L[j].born) clk) } := by
        simp only [setObj, Sem.run, hr1]
      simp only [hrun, Array.getElem?_map, Array.getElem?_eq_getElem hj, Option.map_some, Sem.run_bind, hset, Result.andThen]
      rfl
    · unfold IterIs
      simp [hh, hrl]
    · refine ⟨?_, ?_, ?_, by simp [hh], fun k hk hn => ?_⟩
      · rcases hal with h | h <;> rw [h] <;> rfl
      · rcases hal with h | h <;> rw [h] <;> rfl
      · rcases hal with h | h <;> rw [h] <;> rfl
      · show (w1.heap.setIfInBounds r _)[k]? = _
        rw [Array.getElem?_setIfInBounds, if_neg (fun e => hn e.symm), hh]
    · simp [hh]
theorem ba_false {a b : ByteArray} (h : a ≠ b) : (a == b) = false := by
  cases hb : a == b with
  | false => rfl
  | true => exact absurd ((MapKept.bytes_beq a b).1 hb) h
theorem check_str (w : World) {k : TypeId} (hk : P.underlying k = some .string) (em : Bool) (key : ByteArray) (n : Nat) : (Instr.checkKey em (n + 1) k (.string key)).run P w = .ok () w := by
  rw [Instr.checkKey]
  simp [run_underlying hk]
theorem findNow_none (key : ByteArray) : ∀ (es : List MapEntry) (i : Nat), (∀ x ∈ es, ∃ s : ByteArray, x.key = .string s ∧ key ≠ s) → Instr.findNow .string (.string key) es i = some none
  | [], _, _ => rfl
  | e :: es, i, h => by
    obtain ⟨s, hs, hne⟩ := h e (by simp)
    unfold Instr.findNow
    rw [hs]
    have := ba_false hne
    simp only [Instr.sameNow, this]
    exact findNow_none key es (i + 1) (fun x hx => h x (by simp [hx]))
theorem run_insert_is {w : World} {t k e : TypeId} {b clk : Nat} {es : List MapEntry} {key : ByteArray} (v : Value) (ht : P.underlying t = some (.map k e)) (hk : P.underlying k = some .string) (h : MapIs w b es clk) (hne : ∀ x ∈ es, ∃ s : ByteArray, x.key = .string s ∧ key ≠ s) :
    ∃ w', (Instr.mapUpdate t (.map (some b)) (.string key) v).run P w = .ok () w' ∧ MapIs w' b (es ++ [⟨.string key, v, clk⟩]) (clk + 1) ∧ Only (fun k => k = b) w w' ∧ w'.heap.size = w.heap.size := by
  unfold MapIs at h
  have hb := (Array.getElem?_eq_some_iff.1 h).1
  refine ⟨({ w with heap := w.heap.setIfInBounds b (.map (es ++ [(⟨.string key, v, clk⟩ : MapEntry)]).toArray (clk + 1)) } : World), ?_, ?_, ?_, by simp⟩
  · have hf := findNow_none key es 0 hne
    have hck : ∀ em, (Instr.checkKey em 10000 k (.string key)).run P w = .ok () w := fun em => check_str w hk em key 9999
    have hfk := MapKept.run_findKey (P := P) (w := w) hk hf
    simp [Instr.mapUpdate, run_underlying ht, getObj, Sem.run, h, hck, hfk, Result.andThen, setObj]
  · unfold MapIs
    simp [hb]
  · refine ⟨rfl, rfl, rfl, by simp, fun k hk hn => ?_⟩
    show (w.heap.setIfInBounds b _)[k]? = _
    rw [Array.getElem?_setIfInBounds, if_neg (fun e => hn e.symm)]
end
end Go.Proofs.YtcklfffeimnfeaaGreat

namespace Go.Proofs.YtcklfffeimnfeaaGreat
open Go.RowKit

def numCs (jb jo : Nat) (xs : List (Nat × Nat × Nat)) : List Value := xs.flatMap (fun x => [.pointer (some ⟨jb, jo + x.1, none⟩), .int .u64 (x.2.1 : Nat), .int .u64 (x.2.2 : Nat)])
def numK (k : Nat) : List UInt8 × List (Nat × Nat × Nat) := numTab.getD k ([], [])
def iS (k : Nat) : Nat := [5, 11, 21, 31, 37, 43, 50, 57, 64, 71].getD k 0
def pureL : List Nat := [1, 2, 3, 4, 7, 8, 9, 10, 13, 14, 15, 16, 17, 18, 19, 20, 23, 24, 25, 26, 27, 28, 29, 30, 33, 34, 35, 36, 39, 40, 41, 42, 45, 46, 47, 48, 49, 52, 53, 54, 55, 56, 59, 60, 61, 62, 63, 66, 67, 68, 69, 70]
theorem ops_cases : ∀ i, i < 75 → i ∈ pureL ∨ i = 0 ∨ (∃ k, k < 10 ∧ i = iS k) ∨ (∃ k, k < 10 ∧ i = iS k + 1) ∨ i = 73 ∨ i = 74 := by decide
theorem iS_inj : ∀ k, k < 10 → ∀ j, j < 10 → iS k = iS j → k = j := by decide
theorem iS_lt : ∀ k, k < 10 → 0 < iS k ∧ iS k + 1 < 73 := by decide
theorem iS_ne : ∀ k, k < 10 → ∀ j, j < 10 → iS k ≠ iS j + 1 := by decide
theorem numK_words : ∀ k, k < 10 → ∀ j, j < 10 → (numK k).1 = (numK j).1 → k = j := by decide
/-- an entry of the map -/
def EntK (s : Nat → Value) (k : Nat) (x : MapEntry) : Prop := x.key = .string (bs (numK k).1) ∧ x.val = s k
structure NumSt (T : TypeId) (jb jo : Nat) (w0 : World) (l : Array Bool) (m : Value) (s : Nat → Value) (u v : Value) (w : World) : Prop where
  sz : l.size = 75
  pure : ∀ i ∈ pureL, l.getD i true = true
  below : Below w0.heap.size w0 w
  ins : ∀ k, k < 10 → l.getD (iS k + 1) true = true → l.getD 0 true = true ∧ l.getD (iS k) true = true
  map : l.getD 0 true = true → ∃ mb es, m = .map (some mb) ∧ w0.heap.size ≤ mb ∧ MapIs w mb es es.length ∧ (∀ k, k < 10 → l.getD (iS k + 1) true = true → ∃ x ∈ es, EntK s k x) ∧ (∀ x ∈ es, ∃ k, k < 10 ∧ l.getD (iS k + 1) true = true ∧ EntK s k x) ∧
    (∀ x ∈ es, x.born < es.length) ∧ (es.map (·.born)).Nodup ∧ (es.map (·.key)).Nodup
  sl : ∀ k, k < 10 → l.getD (iS k) true = true → ∃ b, s k = .slice (some ⟨b, 0, none⟩) (numK k).2.length (numK k).2.length ∧ w0.heap.size ≤ b ∧ w.heap[b]? = some (.cells (numCs jb jo (numK k).2).toArray T (0, 0))
  f1 : l.getD 73 true = true → l.getD 0 true = true ∧ u = m
  f2 : l.getD 74 true = true → l.getD 0 true = true ∧ v = m ∧ l.getD 73 true = true
def upd (s : Nat → Value) (k : Nat) (x : Value) : Nat → Value := fun i => if i = k then x else s i
theorem getD_set {l : Array Bool} {i : Nat} (hi : i < l.size) (j : Nat) : (l.setIfInBounds i true).getD j true = if i = j then true else l.getD j true := by
  by_cases h : i = j
  · subst h; simp [Array.getD, hi]
  · rw [if_neg h]; exact getD_set_ne true h
theorem getD_up {l : Array Bool} {i : Nat} (hi : i < l.size) {j : Nat} (h : l.getD j true = true) : (l.setIfInBounds i true).getD j true = true := by
  rw [getD_set hi]; split
  · rfl
  · exact h
section
variable {T : TypeId} {jb jo : Nat} {w0 : World} {l : Array Bool} {m : Value} {s : Nat → Value} {u v : Value} {w : World}
theorem NumSt.start (hsz : l.size = 75) (hp : ∀ i ∈ pureL, l.getD i true = true) (hz : l.getD 0 true = false) (hk : ∀ k, k < 10 → l.getD (iS k) true = false ∧ l.getD (iS k + 1) true = false) (h3 : l.getD 73 true = false) (h4 : l.getD 74 true = false) (hb : Below w0.heap.size w0 w) : NumSt T jb jo w0 l m s u v w := by
  refine ⟨hsz, hp, hb, fun k h hx => ?_, fun hx => ?_, fun k h hx => ?_, fun hx => ?_, fun hx => ?_⟩
  · rw [(hk k h).2] at hx; cases hx
  · rw [hz] at hx; cases hx
  · rw [(hk k h).1] at hx; cases hx
  · rw [h3] at hx; cases hx
  · rw [h4] at hx; cases hx
theorem NumSt.mk0 (h : NumSt T jb jo w0 l m s u v w) (h0 : l.getD 0 true = false) : NumSt T jb jo w0 (l.setIfInBounds 0 true) (.map (some w.heap.size)) s u v (w.alloc (.map #[] 0)) := by
  have hg := getD_set (l := l) (i := 0) (by rw [h.sz]; omega)
  have hno : ∀ k, k < 10 → l.getD (iS k + 1) true = false := fun k hk => by
    cases hx : l.getD (iS k + 1) true with
    | false => rfl
    | true => have := (h.ins k hk hx).1; rw [h0] at this; cases this
  refine ⟨by simpa using h.sz, fun i hi => ?_, h.below.alloc h.below.size _, fun k hk hx => ?_, fun _ => ⟨w.heap.size, [], rfl, h.below.size, heap_alloc_new w _, fun k hk hx => ?_, fun x hx => by simp at hx, fun x hx => by simp at hx, by simp, by simp⟩, fun k hk hx => ?_, fun hx => ?_, fun hx => ?_⟩
  · rw [hg]; split
    · rfl
    · exact h.pure i hi
  · rw [hg, if_neg (by omega), hno k hk] at hx; cases hx
  · rw [hg, if_neg (by omega), hno k hk] at hx; cases hx
  · rw [hg, if_neg (by have := iS_lt k hk; omega)] at hx
    obtain ⟨b, h1, h2, h3⟩ := h.sl k hk hx
    exact ⟨b, h1, h2, (Below.heap_alloc w _ b (Array.getElem?_eq_some_iff.1 h3).1).trans h3⟩
  · rw [hg, if_neg (by omega)] at hx
    have := (h.f1 hx).1; rw [h0] at this; cases this
  · rw [hg, if_neg (by omega)] at hx
    have := (h.f2 hx).1; rw [h0] at this; cases this
theorem NumSt.lay (h : NumSt T jb jo w0 l m s u v w) {k : Nat} (hk : k < 10) (h0 : l.getD (iS k) true = false) :
    NumSt T jb jo w0 (l.setIfInBounds (iS k) true) m (upd s k (.slice (some ⟨w.heap.size, 0, none⟩) (numK k).2.length (numK k).2.length)) u v (w.alloc (.cells (numCs jb jo (numK k).2).toArray T)) := by
  have hl := iS_lt k hk
  have hg := getD_set (l := l) (i := iS k) (by rw [h.sz]; omega)
  have hu : ∀ j, j ≠ k → upd s k (.slice (some ⟨w.heap.size, 0, none⟩) (numK k).2.length (numK k).2.length) j = s j := fun j hj => if_neg hj
  have hi : ∀ j, j < 10 → l.getD (iS j + 1) true = true → j ≠ k := fun j hj hx e => by
    have := (h.ins j hj hx).2; rw [e, h0] at this; cases this
  refine ⟨by simpa using h.sz, fun i hi => ?_, h.below.alloc h.below.size _, fun j hj hx => ?_, fun hx => ?_, fun j hj hx => ?_, fun hx => ?_, fun hx => ?_⟩
  · rw [hg]; split
    · rfl
    · exact h.pure i hi
  · rw [hg, if_neg (iS_ne k hk j hj)] at hx
    have := h.ins j hj hx
    rw [hg, hg, if_neg (by omega)]
    refine ⟨this.1, ?_⟩
    split
    · rfl
    · exact this.2
  · rw [hg, if_neg (by omega)] at hx
    obtain ⟨mb, es, e1, e2, e3, e4, e5, e6, e7, e8⟩ := h.map hx
    refine ⟨mb, es, e1, e2, e3.ext (ext_alloc _ _), fun j hj hy => ?_, fun x hx => ?_, e6, e7, e8⟩
    · rw [hg, if_neg (iS_ne k hk j hj)] at hy
      obtain ⟨x, hx, h1, h2⟩ := e4 j hj hy
      exact ⟨x, hx, h1, by rw [hu j (hi j hj hy)]; exact h2⟩
    · obtain ⟨j, hj, hy, h1, h2⟩ := e5 x hx
      exact ⟨j, hj, by rw [hg, if_neg (iS_ne k hk j hj)]; exact hy, h1, by rw [hu j (hi j hj hy)]; exact h2⟩
  · by_cases e : j = k
    · subst e
      exact ⟨w.heap.size, if_pos rfl, h.below.size, heap_alloc_new w _⟩
    · rw [hg, if_neg (fun e' => e (iS_inj k hk j hj e').symm)] at hx
      obtain ⟨b, h1, h2, h3⟩ := h.sl j hj hx
      exact ⟨b, by rw [hu j e]; exact h1, h2, (Below.heap_alloc w _ b (Array.getElem?_eq_some_iff.1 h3).1).trans h3⟩
  · rw [hg, if_neg (by omega)] at hx ⊢
    exact h.f1 hx
  · rw [hg, if_neg (by omega)] at hx
    obtain ⟨f1, f2, f3⟩ := h.f2 hx
    exact ⟨getD_up (by rw [h.sz]; omega) f1, f2, getD_up (by rw [h.sz]; omega) f3⟩
/-- what is to be inserted, and where -/
theorem NumSt.pre (h : NumSt T jb jo w0 l m s u v w) {k : Nat} (hk : k < 10) (hm : l.getD 0 true = true) (h0 : l.getD (iS k + 1) true = false) :
    ∃ mb es, m = .map (some mb) ∧ MapIs w mb es es.length ∧ (∀ x ∈ es, ∃ t : ByteArray, x.key = .string t ∧ bs (numK k).1 ≠ t) ∧
      ∀ w', MapIs w' mb (es ++ [⟨.string (bs (numK k).1), s k, es.length⟩]) (es.length + 1) → Only (fun i => i = mb) w w' → l.getD (iS k) true = true → NumSt T jb jo w0 (l.setIfInBounds (iS k + 1) true) m s u v w' := by
  obtain ⟨mb, es, e1, e2, e3, e4, e5, e6, e7, e8⟩ := h.map hm
  have hl := iS_lt k hk
  have hg := getD_set (l := l) (i := iS k + 1) (by rw [h.sz]; omega)
  have hne : ∀ x ∈ es, ∃ t : ByteArray, x.key = .string t ∧ bs (numK k).1 ≠ t := fun x hx => by
    obtain ⟨j, hj, hy, h1, h2⟩ := e5 x hx
    refine ⟨_, h1, fun e => ?_⟩
    have := numK_words k hk j hj (bs_inj e)
    rw [← this, h0] at hy; cases hy
  refine ⟨mb, es, e1, e3, hne, fun w' hm' ho hs => ⟨by simpa using h.sz, fun i hi => ?_, h.below.trans (ho.below h.below.size (fun i hi e => by omega)), fun j hj hx => ?_, fun hx => ⟨mb, es ++ [⟨.string (bs (numK k).1), s k, es.length⟩], e1, e2, by rw [List.length_append]; exact hm', fun j hj hy => ?_, fun x hx => ?_, fun x hx => ?_, ?_, ?_⟩, fun j hj hx => ?_, fun hx => ?_, fun hx => ?_⟩⟩
  · rw [hg]; split
    · rfl
    · exact h.pure i hi
  · rw [hg, hg, if_neg (by omega), if_neg (fun e => iS_ne j hj k hk e.symm)]
    by_cases e : j = k
    · subst e; exact ⟨hm, hs⟩
    · rw [hg, if_neg (fun e' => e (iS_inj k hk j hj (by omega)).symm)] at hx
      exact h.ins j hj hx
  · by_cases e : j = k
    · subst e; exact ⟨_, List.mem_append_right _ (List.mem_singleton.2 rfl), rfl, rfl⟩
    · rw [hg, if_neg (fun e' => e (iS_inj k hk j hj (by omega)).symm)] at hy
      obtain ⟨x, hx, h1⟩ := e4 j hj hy
      exact ⟨x, List.mem_append_left _ hx, h1⟩
  · rcases List.mem_append.1 hx with h1 | h1
    · obtain ⟨j, hj, hy, h2⟩ := e5 x h1
      refine ⟨j, hj, ?_, h2⟩
      rw [hg]; split
      · rfl
      · exact hy
    · rw [List.mem_singleton] at h1
      subst h1
      exact ⟨k, hk, by rw [hg, if_pos rfl], rfl, rfl⟩
  · rw [List.length_append]
    rcases List.mem_append.1 hx with h1 | h1
    · have := e6 x h1; simp; omega
    · rw [List.mem_singleton] at h1; subst h1; simp
  · rw [List.map_append, List.nodup_append]
    refine ⟨e7, by simp, fun a ha b hb => ?_⟩
    obtain ⟨x, hx, rfl⟩ := List.mem_map.1 ha
    simp only [List.map_cons, List.map_nil, List.mem_singleton] at hb
    have := e6 x hx; omega
  · rw [List.map_append, List.nodup_append]
    refine ⟨e8, by simp, fun a ha b hb => ?_⟩
    obtain ⟨x, hx, rfl⟩ := List.mem_map.1 ha
    simp only [List.map_cons, List.map_nil, List.mem_singleton] at hb
    obtain ⟨t, ht, hn⟩ := hne x hx
    rw [hb, ht]
    intro e
    injection e with e
    exact hn e.symm
  · rw [hg, if_neg (fun e => iS_ne j hj k hk e.symm)] at hx
    obtain ⟨b, h1, h2, h3⟩ := h.sl j hj hx
    refine ⟨b, h1, h2, (ho.same b (Array.getElem?_eq_some_iff.1 h3).1 (fun e => ?_)).trans h3⟩
    subst e
    have := e3
    unfold MapIs at this
    rw [h3] at this; cases this
  · rw [hg, if_neg (by omega)] at hx ⊢
    exact h.f1 hx
  · rw [hg, if_neg (by omega)] at hx
    obtain ⟨f1, f2, f3⟩ := h.f2 hx
    exact ⟨getD_up (by rw [h.sz]; omega) f1, f2, getD_up (by rw [h.sz]; omega) f3⟩
theorem NumSt.f1s (h : NumSt T jb jo w0 l m s u v w) (hm : l.getD 0 true = true) (h0 : l.getD 73 true = false) : NumSt T jb jo w0 (l.setIfInBounds 73 true) m s m v w := by
  have hg := getD_set (l := l) (i := 73) (by rw [h.sz]; omega)
  have hl := iS_lt
  refine ⟨by simpa using h.sz, fun i hi => ?_, h.below, fun j hj hx => ?_, fun hx => ?_, fun j hj hx => ?_, fun hx => ⟨by rw [hg, if_neg (by omega)]; exact hm, rfl⟩, fun hx => ?_⟩
  · rw [hg]; split
    · rfl
    · exact h.pure i hi
  · rw [hg, if_neg (by have := hl j hj; omega)] at hx
    rw [hg, hg, if_neg (by omega), if_neg (by have := hl j hj; omega)]
    exact h.ins j hj hx
  · obtain ⟨mb, es, e1, e2, e3, e4, e5, e6⟩ := h.map hm
    refine ⟨mb, es, e1, e2, e3, fun j hj hy => ?_, fun x hx => ?_, e6⟩
    · rw [hg, if_neg (by have := hl j hj; omega)] at hy
      exact e4 j hj hy
    · obtain ⟨j, hj, hy, h2⟩ := e5 x hx
      exact ⟨j, hj, by rw [hg, if_neg (by have := hl j hj; omega)]; exact hy, h2⟩
  · rw [hg, if_neg (by have := hl j hj; omega)] at hx
    exact h.sl j hj hx
  · rw [hg, if_neg (by omega)] at hx
    have := (h.f2 hx).2.2; rw [h0] at this; cases this
theorem NumSt.f2s (h : NumSt T jb jo w0 l m s u v w) (hm : l.getD 73 true = true) : NumSt T jb jo w0 (l.setIfInBounds 74 true) m s u u w := by
  have hg := getD_set (l := l) (i := 74) (by rw [h.sz]; omega)
  have hl := iS_lt
  obtain ⟨h0, hu⟩ := h.f1 hm
  refine ⟨by simpa using h.sz, fun i hi => ?_, h.below, fun j hj hx => ?_, fun hx => ?_, fun j hj hx => ?_, fun hx => ⟨by rw [hg, if_neg (by omega)]; exact h0, hu⟩, fun hx => ⟨by rw [hg, if_neg (by omega)]; exact h0, hu, by rw [hg, if_neg (by omega)]; exact hm⟩⟩
  · rw [hg]; split
    · rfl
    · exact h.pure i hi
  · rw [hg, if_neg (by have := hl j hj; omega)] at hx
    rw [hg, hg, if_neg (by omega), if_neg (by have := hl j hj; omega)]
    exact h.ins j hj hx
  · obtain ⟨mb, es, e1, e2, e3, e4, e5, e6⟩ := h.map h0
    refine ⟨mb, es, e1, e2, e3, fun j hj hy => ?_, fun x hx => ?_, e6⟩
    · rw [hg, if_neg (by have := hl j hj; omega)] at hy
      exact e4 j hj hy
    · obtain ⟨j, hj, hy, h2⟩ := e5 x hx
      exact ⟨j, hj, by rw [hg, if_neg (by have := hl j hj; omega)]; exact hy, h2⟩
  · rw [hg, if_neg (by have := hl j hj; omega)] at hx
    exact h.sl j hj hx
/-- the map of the numbers of the job at ⟨jb, jo⟩ -/
structure NumsAt (T : TypeId) (jb jo : Nat) (w : World) (mb : Nat) (es : List MapEntry) : Prop where
  map : MapIs w mb es es.length
  born : ∀ x ∈ es, x.born < es.length
  borns : (es.map (·.born)).Nodup
  keys : (es.map (·.key)).Nodup
  all : ∀ e ∈ numTab, ∃ x ∈ es, x.key = .string (bs e.1)
  each : ∀ x ∈ es, ∃ e ∈ numTab, ∃ b, x.key = .string (bs e.1) ∧ x.val = .slice (some ⟨b, 0, none⟩) e.2.length e.2.length ∧ w.heap[b]? = some (.cells (numCs jb jo e.2).toArray T (0, 0))
theorem numTab_k : ∀ e ∈ numTab, ∃ k, k < 10 ∧ numK k = e := by decide
theorem numK_mem : ∀ k, k < 10 → numK k ∈ numTab := by decide
theorem NumSt.done (h : NumSt T jb jo w0 l m s u v w) (ha : ∀ i, i < 75 → l.getD i true = true) : ∃ mb es, v = .map (some mb) ∧ w0.heap.size ≤ mb ∧ NumsAt T jb jo w mb es ∧ Below w0.heap.size w0 w := by
  obtain ⟨mb, es, e1, e2, e3, e4, e5, e6, e7, e8⟩ := h.map (ha 0 (by omega))
  refine ⟨mb, es, ((h.f2 (ha 74 (by omega))).2.1).trans e1, e2, ⟨e3, e6, e7, e8, fun e he => ?_, fun x hx => ?_⟩, h.below⟩
  · obtain ⟨k, hk, rfl⟩ := numTab_k e he
    obtain ⟨x, hx, h1, _⟩ := e4 k hk (ha _ (by have := iS_lt k hk; omega))
    exact ⟨x, hx, h1⟩
  · obtain ⟨k, hk, _, h1, h2⟩ := e5 x hx
    obtain ⟨b, h3, _, h4⟩ := h.sl k hk (ha _ (by have := iS_lt k hk; omega))
    exact ⟨numK k, numK_mem k hk, b, h1, h2.trans h3, h4⟩
end

/-! ### a region in whatever order, by what is kept -/
def falses (l : Array Bool) : Nat := l.toList.count false
theorem falses_set {l : Array Bool} {i : Nat} (h : l.getD i true = false) : falses (l.setIfInBounds i true) + 1 = falses l := by
  unfold falses
  have hi : i < l.size := by
    rcases Nat.lt_or_ge i l.size with h1 | h1
    · exact h1
    · simp [Array.getD, Nat.not_lt.2 h1] at h
  have hv : l.toList[i]'(by simpa using hi) = false := by simpa [Array.getD, hi] using h
  rw [Array.toList_setIfInBounds]
  have h1 := List.count_set (l := l.toList) (i := i) (a := true) (b := false) (by simpa using hi)
  rw [h1]
  have h2 : 0 < l.toList.count false := List.count_pos_iff.2 (by rw [← hv]; exact List.getElem_mem _)
  rw [hv]
  simp only [beq_self_eq_true, if_true, show (true == false) = false from rfl, if_false, Bool.false_eq_true]
  omega
theorem wpAny_inv {P : Program} {md : Region.Mode} {ops : Array Oper} {Q : Exit → Act → World → Prop} (Inv : Array Bool → Act → World → Prop) (hsz : ∀ l a w, Inv l a w → l.size = ops.size)
    (hstep : ∀ l a w i, Inv l a w → i ∈ Region.ready md ops l → wpOp P ops Q i (fun a' w' => Inv (l.setIfInBounds i true) a' w') a w) (hend : ∀ l a w, Inv l a w → Region.ready md ops l = [] → Q .normal a w) :
    ∀ fuel l a w, Inv l a w → falses l ≤ fuel → wpAny P md ops Q fuel l a w
  | 0, l, a, w, hi, hf => by
    have hr : Region.ready md ops l = [] := by
      rw [List.eq_nil_iff_forall_not_mem]
      intro i hm
      have := falses_set (mem_ready.1 hm).1
      omega
    exact ⟨hr, hend l a w hi hr⟩
  | fuel + 1, l, a, w, hi, hf => by
    refine ⟨fun hr => hend l a w hi hr, fun i hm => ?_⟩
    exact wpOp_mono (fun a' w' h => wpAny_inv Inv hsz hstep hend fuel _ a' w' h (by have := falses_set (mem_ready.1 hm).1; omega)) (hstep l a w i hi hm)
theorem getD_ft {l : Array Bool} {i : Nat} (h : l.getD i false = true) : l.getD i true = true := by
  rcases Nat.lt_or_ge i l.size with h1 | h1
  · simpa [Array.getD, h1] using h
  · simp [Array.getD, Nat.not_lt.2 h1] at h
theorem getD_in {l : Array Bool} {i : Nat} (h : l.getD i true = false) : i < l.size := by
  rcases Nat.lt_or_ge i l.size with h1 | h1
  · exact h1
  · simp [Array.getD, Nat.not_lt.2 h1] at h
theorem getD_tf {l : Array Bool} {i : Nat} (hi : i < l.size) (h : l.getD i true = true) : l.getD i false = true := by simpa [Array.getD, hi] using h
section
variable {P : Program} {md : Region.Mode} {ops : Array Oper} {Q : Exit → Act → World → Prop}
theorem ready_after {l : Array Bool} {i : Nat} {o : Oper} (hr : i ∈ Region.ready md ops l) (ho : ops[i]? = some o) (n : Nat) {e : Edge} (he : o.after[n]? = some e) (hb : Region.binds md e = true) : l.getD e.on true = true := by
  obtain ⟨_, o', ho', h⟩ := mem_ready.1 hr
  rw [ho] at ho'; cases ho'
  exact getD_ft (h e (Array.mem_of_getElem? he) hb)
/-- where nothing is ready all are through -/
theorem ready_nil {l : Array Bool} (hsz : l.size = ops.size) (hlt : ((List.range ops.size).all fun i => match ops[i]? with | some (o : Oper) => o.after.all (fun e => decide (e.on < i)) | none => true) = true) (hr : Region.ready md ops l = []) : ∀ i, i < ops.size → l.getD i true = true := by
  intro i
  induction i using Nat.strongRecOn with
  | _ i ih =>
    intro hi
    cases hx : l.getD i true with
    | true => rfl
    | false =>
      have : i ∈ Region.ready md ops l := mem_ready.2 ⟨hx, ops[i], Array.getElem?_eq_some_iff.2 ⟨hi, rfl⟩, fun e he _ => by
        have h1 : e.on < i := by
          have h2 := List.all_eq_true.1 hlt i (List.mem_range.2 hi)
          rw [Array.getElem?_eq_some_iff.2 ⟨hi, rfl⟩] at h2
          exact of_decide_eq_true (Array.all_eq_true_iff_forall_mem.1 h2 e he)
        exact getD_tf (by omega) (ih e.on h1 (by omega))⟩
      rw [hr] at this; cases this
theorem wpOp_run {i : Nat} {o : Oper} {K : Act → World → Prop} {a : Act} {w : World} (ho : ops[i]? = some o) (hg : o.guard = none)
    (h : ∀ K' : Act → World → Prop, (∀ a w, K a w → K' a w) → o.wp P a w K' Q) : wpOp P ops Q i K a w := by
  unfold wpOp
  rw [ho]
  simp only [Region.wanted, hg, if_true]
  exact Or.inl (h K fun _ _ h => h)
theorem wpOp_insert {i : Nat} {o : Oper} {K : Act → World → Prop} {a : Act} {w : World} (ho : ops[i]? = some o) (hg : o.guard = none) (m x v : Operand) (t : TypeId) (hop : o.op = Op.insert t m x v)
    {k e : TypeId} {b clk : Nat} {es : List MapEntry} {key : ByteArray} {val : Value} (ht : P.underlying t = some (.map k e)) (hk : P.underlying k = some .string) (hm : a.eval m = .map (some b)) (hx : a.eval x = .string key) (hv : a.eval v = val)
    (h : MapIs w b es clk) (hne : ∀ x ∈ es, ∃ s : ByteArray, x.key = .string s ∧ key ≠ s)
    (hK : ∀ w', MapIs w' b (es ++ [⟨.string key, val, clk⟩]) (clk + 1) → Only (fun k => k = b) w w' → K (a.put o.dst undef) w') : wpOp P ops Q i K a w := by
  refine wpOp_run ho hg fun K' hK' => ?_
  obtain ⟨w', hrun, r1, r2, r3⟩ := run_insert_is val ht hk h hne
  unfold Oper.wp
  simp [execOp, hop, hm, hx, hv, hrun, Result.andThen]
  exact hK' _ _ (hK w' r1 r2)
theorem wpAny_frame {f : Nat} {l : Array Bool} {a a' : Act} {w : World} (e : a = a') (h : wpAny P md ops Q f l a' w) : wpAny P md ops Q f l a w := e ▸ h
end
end Go.Proofs.YtcklfffeimnfeaaGreat
