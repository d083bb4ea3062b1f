/- A job, and which one may be. No program in sight. -/
import Derived.Test.YtlgnpogmgpgdaaaRep
namespace Go.Proofs.Ytlgnpogmgpgdaaa
set_option linter.unusedSimpArgs false
set_option linter.unusedVariables false
set_option maxRecDepth 100000
open Go.RowKit

structure JobD where
  kind : Nat
  seed : Nat
  length : Nat
  walks : Nat
  src : List Nat
  stop : Nat
  od : Nat
  p : Nat
  q : Nat
  tries : Nat
  best : Nat
  bsh : Nat
  bro : Nat
  bpo : Nat
  bso : Nat
structure JobOk (j : JobD) : Prop where
  kind : j.kind < 256
  seed : j.seed < 18446744073709551616
  length : j.length < 4294967296
  walks : j.walks < 4294967296
  src : ∀ x ∈ j.src, x < 4294967296
  stop : j.stop < 4294967296
  od : j.od < 4294967296
  p : j.p < 4294967296
  q : j.q < 4294967296
  tries : j.tries < 4294967296
  best : j.best < 4294967296
  bsh : j.bsh < 4294967296
  bro : j.bro < 4294967296
  bpo : j.bpo < 4294967296
  bso : j.bso < 4294967296
/-- a job's cells -/
def jobCs (j : JobD) (ao : Option Addr) (cap : Nat) : Array Value :=
  #[.int .u8 (j.kind : Nat), .int .u64 (j.seed : Nat), .int .u32 (j.length : Nat), .int .u32 (j.walks : Nat), .slice ao j.src.length cap, .int .u32 (j.stop : Nat), .int .u32 (j.od : Nat), .int .u32 (j.p : Nat), .int .u32 (j.q : Nat),
    .int .u32 (j.tries : Nat), .int .u32 (j.best : Nat), .int .u32 (j.bsh : Nat), .int .u32 (j.bro : Nat), .int .u32 (j.bpo : Nat), .int .u32 (j.bso : Nat)]
/-- the numbers of a job, by their cells -/
def jobC (j : JobD) : Nat → Nat
  | 2 => j.length
  | 3 => j.walks
  | 5 => j.stop
  | 6 => j.od
  | 7 => j.p
  | 8 => j.q
  | 9 => j.tries
  | 10 => j.best
  | 11 => j.bsh
  | 12 => j.bro
  | 13 => j.bpo
  | 14 => j.bso
  | _ => 0
/-- by words: cells, least and greatest numbers -/
def numTab : List (List UInt8 × List (Nat × Nat × Nat)) :=
  [([108, 101, 110, 103, 116, 104], [(2, 0, 65536)]),
   ([119, 97, 108, 107, 115], [(3, 1, 65536)]),
   ([114, 101, 115, 116, 97, 114, 116], [(5, 0, 4294967295), (6, 1, 4294967295)]),
   ([98, 105, 97, 115], [(7, 1, 65536), (8, 1, 65536)]),
   ([116, 114, 105, 101, 115], [(9, 1, 1024)]),
   ([98, 101, 115, 116], [(10, 0, 1024)]),
   ([115, 104, 97, 114, 100], [(11, 1, 65536)]),
   ([114, 111, 111, 109], [(12, 1, 16777216)]),
   ([112, 111, 111, 108], [(13, 2, 65536)]),
   ([115, 111, 114, 116], [(14, 1, 4096)])]
def inB (n a b : Nat) : Bool := decide (a ≤ n ∧ n ≤ b)
def allNums (j : JobD) : Bool := numTab.all (fun e => e.2.all (fun x => inB (jobC j x.1) x.2.1 x.2.2))
def walkB (j : JobD) : Bool := decide (j.kind ≤ 2) && inB j.length 0 65536 && inB j.walks 1 65536 && decide (1 ≤ j.od) && decide (j.stop ≤ j.od)
def secB (j : JobD) : Bool := inB j.p 1 65536 && inB j.q 1 65536 && inB j.tries 1 1024 && decide (j.best ≤ 1024)
def budB (j : JobD) : Bool := inB j.bsh 1 65536 && inB j.bro 1 16777216 && inB j.bpo 2 65536 && inB j.bso 1 4096
def srcB (l : List Nat) : Bool := decide (1 ≤ l.length) && decide (l.length ≤ 256) && decide l.Nodup
/-- may a job be? -/
def mayJ (j : JobD) : Bool := walkB j && secB j && budB j && srcB j.src
theorem mayJ_nums {j : JobD} (h : JobOk j) : mayJ j = (decide (j.kind < 3) && decide (j.stop ≤ j.od) && decide (0 < j.src.length) && decide (j.src.length ≤ 256) && allNums j && decide j.src.Nodup) := by
  have h1 := h.od
  have h2 := h.stop
  rw [Bool.eq_iff_iff]
  simp only [mayJ, walkB, secB, budB, srcB, allNums, numTab, inB, jobC, List.all_cons, List.all_nil, Bool.and_true, Bool.and_eq_true, decide_eq_true_eq]
  constructor
  · rintro ⟨⟨⟨⟨⟨⟨⟨a1, a2⟩, a3⟩, a4⟩, a5⟩, ⟨⟨b1, b2⟩, b3⟩, b4⟩, ⟨⟨c1, c2⟩, c3⟩, c4⟩, ⟨d1, d2⟩, d3⟩
    refine ⟨⟨⟨⟨⟨by omega, a5⟩, by omega⟩, d2⟩, ?_⟩, d3⟩
    refine ⟨a2, a3, ⟨⟨by omega, by omega⟩, a4, by omega⟩, ⟨b1, b2⟩, b3, ⟨by omega, b4⟩, c1, c2, c3, c4⟩
  · rintro ⟨⟨⟨⟨⟨a1, a5⟩, d1⟩, d2⟩, ⟨a2, a3, ⟨x1, a4, x2⟩, ⟨b1, b2⟩, b3, ⟨x3, b4⟩, c1, c2, c3, c4⟩⟩, d3⟩
    exact ⟨⟨⟨⟨⟨⟨⟨by omega, a2⟩, a3⟩, a4⟩, a5⟩, ⟨⟨b1, b2⟩, b3⟩, b4⟩, ⟨⟨c1, c2⟩, c3⟩, c4⟩, ⟨by omega, d2⟩, d3⟩
/-- how many walkers -/
def walkersJ (j : JobD) : Nat := if mayJ j then j.src.length * j.walks else 0
theorem walkersJ_le {j : JobD} (h : mayJ j = true) : j.src.length * j.walks ≤ 16777216 := by
  simp only [mayJ, walkB, srcB, inB, Bool.and_eq_true, decide_eq_true_eq] at h
  obtain ⟨⟨⟨⟨⟨⟨⟨a1, a2⟩, a3, a3'⟩, a4⟩, a5⟩, _⟩, _⟩, ⟨d1, d2⟩, d3⟩ := h
  calc j.src.length * j.walks ≤ 256 * 65536 := Nat.mul_le_mul d2 a3'
    _ = 16777216 := rfl
end Go.Proofs.Ytlgnpogmgpgdaaa
