/- Texts merged into one: MergeRef2, MergeSameW, MergeSort, GraphRef, MergeCanon. -/
import Derived.Test.YtcklfffeimnfeaaGreatBx12
namespace Go.Proofs.YtcklfffeimnfeaaGreat
set_option linter.unusedSimpArgs false
set_option linter.unusedVariables false
set_option maxRecDepth 100000
open Go.RowKit

def hasR (out : List RowD) (x : EdgeD) : Nat := match out.getLast? with
  | some r => if r.1 = x.1 then sumA r.2 else 0
  | none => 0
def isBelow (lastE : Option EdgeD) (x : EdgeD) : Bool := match lastE with
  | some l => belowE x l
  | none => false
/-- as the reference goes through the keys -/
def rrowsGo (out : List RowD) (lastE : Option EdgeD) : List (List UInt8) → List RowD × Nat
  | [] => (out, 0)
  | k :: ks =>
    if k.length ≠ 12 ∨ (keyE k).2.2 = 0 then ([], 3) else
    if isBelow lastE (keyE k) = true then ([], 13) else
    if 2147483647 < hasR out (keyE k) + (keyE k).2.2 then ([], 10) else rrowsGo (withR out (keyE k)) (some (keyE k)) ks
def flushR (row : RowD) : List RowD := if 0 < row.2.length then [row] else []
theorem flushR_pos {row : RowD} (h : 0 < row.2.length) : flushR row = [row] := if_pos h
theorem takeM_pos (row : RowD) (x : EdgeD) : 0 < (mtakeM row x).2.length := (takeM_len row x).2
theorem keyE_key {k : List UInt8} (h : k.length = 12) : key3 (keyE k).1 (keyE k).2.1 (keyE k).2.2 = k := by
  unfold keyE
  rw [if_pos h]
  exact (key3_keyOf k h).1
theorem belowE_keys {k l : List UInt8} (hk : k.length = 12) (hl : l.length = 12) : belowE (keyE k) (keyE l) = decide (Lib.compareBytes k l < 0) := by
  rw [Bool.eq_iff_iff, belowE_key _ _ (keyE_ok k) (keyE_ok l), keyE_key hk, keyE_key hl, decide_eq_true_eq, cmp_lt]
theorem withR_step (done : List RowD) (row : RowD) (x : EdgeD) (h : 0 < row.2.length ∨ done = []) : withR (done ++ flushR row) x = done ++ (if fullB row x = true then [row] else []) ++ flushR (mtakeM row x) := by
  rw [flushR_pos (takeM_pos row x)]
  by_cases h0 : 0 < row.2.length
  · rw [flushR_pos h0]
    unfold withR
    rw [List.getLast?_concat]
    simp only [List.dropLast_concat]
    by_cases h1 : row.1 = x.1
    · have hf : fullB row x = false := by simp [fullB, h1]
      have ht : mtakeM row x = (row.1, addArc row.2 x) := if_pos ⟨h0, h1⟩
      rw [if_pos h1, hf, ht, h1]
      simp
    · have hf : fullB row x = true := by simp [fullB, h0, h1]
      have ht : mtakeM row x = (x.1, [(x.2.1, x.2.2)]) := if_neg (fun h => h1 h.2)
      rw [if_neg h1, hf, ht]
      simp
  · obtain rfl : done = [] := h.resolve_left h0
    have hf : fullB row x = false := by simp [fullB, h0]
    have ht : mtakeM row x = (x.1, [(x.2.1, x.2.2)]) := if_neg (fun h => h0 h.1)
    have hfl : flushR row = [] := if_neg h0
    rw [hf, ht, hfl]
    simp [withR]
theorem hasR_left (done : List RowD) (row : RowD) (x : EdgeD) (h : 0 < row.2.length ∨ done = []) (hs : sumA row.2 ≤ 2147483647) : (2147483647 < hasR (done ++ flushR row) x + x.2.2) ↔ leftOf row x < x.2.2 := by
  unfold leftOf hasR
  by_cases h0 : 0 < row.2.length
  · rw [flushR_pos h0, List.getLast?_concat]
    simp only
    by_cases h1 : row.1 = x.1
    · rw [if_pos h1, if_pos ⟨h0, h1⟩]; omega
    · rw [if_neg h1, if_neg (fun h => h1 h.2)]; omega
  · obtain rfl : done = [] := h.resolve_left h0
    have hfl : flushR row = [] := if_neg h0
    rw [hfl, if_neg (fun h => h0 h.1)]
    simp
theorem rrowsGo_told : ∀ (ks : List (List UInt8)) (done : List RowD) (row : RowD) (lastE : Option EdgeD) (last : List UInt8), okRow row →
    ((lastE = none ∧ last = [] ∧ done = [] ∧ row.2.length = 0) ∨ (last.length = 12 ∧ lastE = some (keyE last) ∧ 0 < row.2.length)) →
    rrowsGo (done ++ flushR row) lastE ks = if (mtold row last ks).2 = 0 then (done ++ (mtold row last ks).1, 0) else ([], (mtold row last ks).2)
  | [], done, row, lastE, last, hok, h => by
    unfold rrowsGo mtold
    rw [if_pos rfl]
    rfl
  | k :: ks, done, row, lastE, last, hok, h => by
    have hd : 0 < row.2.length ∨ done = [] := by rcases h with ⟨_, _, h, _⟩ | ⟨_, _, h⟩; exact .inr h; exact .inl h
    unfold rrowsGo mtold
    by_cases h1 : k.length ≠ 12 ∨ (keyE k).2.2 = 0
    · have he : mayErr row last k = 3 := if_pos h1
      rw [if_pos h1, he]
      simp
    · rw [if_neg h1]
      have hk12 : k.length = 12 := by omega
      have hb : isBelow lastE (keyE k) = decide (Lib.compareBytes k last < 0) := by
        rcases h with ⟨rfl, rfl, _, _⟩ | ⟨hl, rfl, _⟩
        · show false = _
          cases k <;> simp [Lib.compareBytes]
        · exact belowE_keys hk12 hl
      by_cases h2 : Lib.compareBytes k last < 0
      · have he : mayErr row last k = 13 := by unfold mayErr; rw [if_neg h1, if_pos h2]
        rw [hb, if_pos (by simpa using h2), he]
        simp
      · rw [hb, if_neg (by simpa using h2)]
        have hl := hasR_left done row (keyE k) hd hok.2.2
        by_cases h3 : leftOf row (keyE k) < (keyE k).2.2
        · have he : mayErr row last k = 10 := by unfold mayErr; rw [if_neg h1, if_neg h2, if_pos h3]
          rw [if_pos (hl.2 h3), he]
          simp
        · have he : mayErr row last k = 0 := by unfold mayErr; rw [if_neg h1, if_neg h2, if_neg h3]
          rw [if_neg (fun h => h3 (hl.1 h)), he, withR_step done row (keyE k) hd]
          rw [rrowsGo_told ks (done ++ if fullB row (keyE k) = true then [row] else []) (mtakeM row (keyE k)) (some (keyE k)) k (takeM_ok hok (keyE_ok k) (may_ok he).2.2.2) (.inr ⟨hk12, rfl, takeM_pos row (keyE k)⟩)]
          simp only [ne_eq, not_true_eq_false, if_false, List.append_assoc]
def rrows (ks : List (List UInt8)) : List RowD × Nat := rrowsGo [] none ks
theorem rrows_rows (ks : List (List UInt8)) : rrows ks = rowsOf ks := by
  have h := rrowsGo_told ks [] (0, []) none [] ⟨by simp, by simp, by simp [sumA]⟩ (.inl ⟨rfl, rfl, rfl, rfl⟩)
  unfold rrows rowsOf
  simpa [flushR] using h
def lastV (lastE : Option EdgeD) : EdgeD := lastE.getD (0, 0, 0)
structure RrS (recs : List (List UInt8)) (w : World) (k : Nat) (out : List RowD) (lastE : Option EdgeD) (ao : Option Addr) (cap : Nat) (wr : World) : Prop where
  hk : k ≤ recs.length
  go : rrows recs = rrowsGo out lastE (recs.drop k)
  k0 : lastE = none → k = 0 ∧ out = []
  k1 : ∀ l, lastE = some l → 0 < k ∧ okE l ∧ out ≠ []
  len : out.length ≤ k
  rows : ∀ A r, out = A ++ [r] → 0 < r.2.length ∧ r.2.length ≤ k ∧ sumA r.2 ≤ 2147483647
  c0 : wr.cell? ⟨w.heap.size + 1, 0, none⟩ = some (.int .u32 ((lastV lastE).1 : Nat))
  c1 : wr.cell? ⟨w.heap.size + 1, 1, none⟩ = some (.int .u32 ((lastV lastE).2.1 : Nat))
  c2 : wr.cell? ⟨w.heap.size + 1, 2, none⟩ = some (.int .u32 ((lastV lastE).2.2 : Nat))
  f0 : ∀ j, wr.frozen? ⟨w.heap.size + 1, j, none⟩ = false
  rd : RdS rowRep (fun b => w.heap.size ≤ b ∧ b ≠ w.heap.size + 1 ∧ b < wr.heap.size) wr ao out
  capLe : out.length ≤ cap ∧ cap ≤ maxLen
  below : Below w.heap.size w wr
  sz : w.heap.size + 2 ≤ wr.heap.size
def rrI (recs : List (List UInt8)) (w : World) (o i : Value) (wr : World) : Prop :=
  ∃ k out lastE ao cap, i = .int .i64 (k : Nat) ∧ o = .slice ao out.length cap ∧ RrS recs w k out lastE ao cap wr
theorem withR_last (out : List RowD) (x : EdgeD) : ∃ A r, withR out x = A ++ [r] ∧ (withR out x).length ≤ out.length + 1 ∧
    ((∃ A' r', out = A' ++ [r'] ∧ r'.1 = x.1 ∧ r = (x.1, addArc r'.2 x)) ∨ r = (x.1, [(x.2.1, x.2.2)])) := by
  rcases List.eq_nil_or_concat out with rfl | ⟨A, r, h⟩
  · exact ⟨[], _, rfl, by simp [withR], .inr rfl⟩
  · rw [List.concat_eq_append] at h
    subst h
    unfold withR
    rw [List.getLast?_concat]
    simp only [List.dropLast_concat]
    by_cases h1 : r.1 = x.1
    · rw [if_pos h1]
      exact ⟨A, _, rfl, by simp, .inl ⟨A, r, rfl, h1, rfl⟩⟩
    · rw [if_neg h1]
      exact ⟨A ++ [r], _, rfl, by simp, .inr rfl⟩
theorem snoc_inj {α : Type} {A B : List α} {a b : α} (h : A ++ [a] = B ++ [b]) : A = B ∧ a = b := by
  have := List.append_inj' h rfl
  exact ⟨this.1, by simpa using this.2⟩
theorem hasR_of {A : List RowD} {r : RowD} {x : EdgeD} : hasR (A ++ [r]) x = if r.1 = x.1 then sumA r.2 else 0 := by
  unfold hasR
  rw [List.getLast?_concat]
/-- a round that goes on -/
theorem RrS.step {recs : List (List UInt8)} {w : World} {k : Nat} {out : List RowD} {lastE : Option EdgeD} {ao : Option Addr} {cap : Nat} {wr : World} (h : RrS recs w k out lastE ao cap wr) (hk : k < recs.length) {r : List UInt8} {x : EdgeD} (hr : recs.drop k = r :: recs.drop (k + 1)) (hx : keyE r = x) (h1 : ¬ (r.length ≠ 12 ∨ x.2.2 = 0)) (h2 : isBelow lastE x = false)
    (h3 : ¬ 2147483647 < hasR out x + x.2.2) {W5 W6 : World} {ao6 : Option Addr} {cap6 : Nat} (hB5 : Below wr.heap.size wr W5) (hB6 : Below W5.heap.size W5 W6) (hrd : RdS rowRep (fun b => (w.heap.size ≤ b ∧ b ≠ w.heap.size + 1 ∧ b < wr.heap.size) ∨ W5.heap.size ≤ b) W6 ao6 (withR out x)) (hc : (withR out x).length ≤ cap6 ∧ cap6 ≤ maxLen) :
    RrS recs w (k + 1) (withR out x) (some x) ao6 cap6 (((W6.setCell ⟨w.heap.size + 1, 0, none⟩ (.int .u32 (x.1 : Nat))).setCell ⟨w.heap.size + 1, 1, none⟩ (.int .u32 (x.2.1 : Nat))).setCell ⟨w.heap.size + 1, 2, none⟩ (.int .u32 (x.2.2 : Nat))) := by
  have hokx : okE x := hx ▸ keyE_ok r
  obtain ⟨A, q, hw, hwl, hq⟩ := withR_last out x
  have hB := hB5.trans (hB6.mono hB5.size)
  have hs := hB.size
  have hsz := h.sz
  have cc := fun j => (bcell hB).1 (w.heap.size + 1) j (by omega)
  have ff := fun j => (bcell hB).2 (w.heap.size + 1) j (by omega)
  have c0 := (cc 0).trans h.c0
  have c1 := (cc 1).trans h.c1
  have c2 := (cc 2).trans h.c2
  have hon : Only (fun b => b = w.heap.size + 1) W6 (((W6.setCell ⟨w.heap.size + 1, 0, none⟩ (.int .u32 (x.1 : Nat))).setCell ⟨w.heap.size + 1, 1, none⟩ (.int .u32 (x.2.1 : Nat))).setCell ⟨w.heap.size + 1, 2, none⟩ (.int .u32 (x.2.2 : Nat))) :=
    (((Only.refl (fun b => b = w.heap.size + 1) W6).setCell (p := ⟨w.heap.size + 1, 0, none⟩) (fun _ => rfl) _).setCell (p := ⟨w.heap.size + 1, 1, none⟩) (fun _ => rfl) _).setCell (p := ⟨w.heap.size + 1, 2, none⟩) (fun _ => rfl) _
  refine ⟨by omega, ?_, by simp, fun l hl => ⟨by omega, by cases hl; exact hokx, by rw [hw]; simp⟩, by have := h.len; omega, ?_, by simp [cell_set_ite, c0, lastV], by simp [cell_set_ite, c1, lastV], by simp [cell_set_ite, c2, lastV], fun j => by simp [ff, h.f0], ?_, hc, ?_, by simp; omega⟩
  · rw [h.go, hr]
    conv => lhs; unfold rrowsGo
    rw [hx, if_neg h1, h2, if_neg (by simp), if_neg h3]
  · intro A' r' e
    rw [hw] at e
    obtain ⟨_, rfl⟩ := snoc_inj e
    rcases hq with ⟨A', r', ho, hrx, rfl⟩ | rfl
    · obtain ⟨h4, h5, h6⟩ := h.rows A' r' ho
      rw [ho, hasR_of, if_pos hrx] at h3
      exact ⟨(addArc_len _ _).2, by have := (addArc_len r'.2 x).1; simp only; omega, by simp only [addArc_sum]; omega⟩
    · exact ⟨by simp, by simp, by simp only [sumA_one]; omega⟩
  · refine (hrd.only hon (fun b hb _ e => ?_)).mono (fun b hb hl => ?_)
    · have := hB5.size
      rcases hb with hb | hb
      · exact hb.2.1 e
      · omega
    · have := hB5.size
      simp at hl ⊢
      rcases hb with hb | hb
      · exact ⟨hb.1, hb.2.1, by omega⟩
      · exact ⟨by omega, by omega, hl⟩
  · exact (((h.below.trans (hB.mono h.below.size)).setCell (by simp) _).setCell (by simp) _).setCell (by simp) _
theorem RowsRet.none {w W : World} {c n : Nat} {ao : Option Addr} {r : List RowD × Nat} (h : r = ([], n)) (hB : Below w.heap.size w W) (hc : c ≤ maxLen) : RowsRet r w (.returned (.tuple #[.slice ao 0 c, .int .i64 (n : Nat)])) W := by
  subst h; exact ⟨ao, c, rfl, by simp, hc, .inl rfl, hB⟩

end Go.Proofs.YtcklfffeimnfeaaGreat

namespace Go.Proofs.YtcklfffeimnfeaaGreat
set_option linter.unusedSimpArgs false
set_option linter.unusedVariables false
set_option maxRecDepth 100000
open Go.RowKit

def sameQ (n : Nat) (w : World) (i : Value) (wr : World) : Prop := ∃ k m : Nat, k ≤ n ∧ i = .int .i64 (k : Nat) ∧ wr = w.drewN m

end Go.Proofs.YtcklfffeimnfeaaGreat

namespace Go.Proofs.YtcklfffeimnfeaaGreat
set_option linter.unusedSimpArgs false
set_option linter.unusedVariables false
set_option maxRecDepth 100000
open Go.RowKit

theorem RdS.edgeM {fp : Nat → Prop} {w : World} {ao : Option Addr} {l : List EdgeD} (h : RdS edgeRep fp w ao l) (k : Nat) (hk : k < l.length) :
    ∃ b off, ao = some ⟨b, off, none⟩ ∧ b < w.heap.size ∧ w.cell? ⟨b, off + k * 3, none⟩ = some (.int .u32 (l[k].1 : Nat)) ∧ w.cell? ⟨b, off + k * 3 + 1, none⟩ = some (.int .u32 (l[k].2.1 : Nat)) ∧ w.cell? ⟨b, off + k * 3 + 2, none⟩ = some (.int .u32 (l[k].2.2 : Nat)) ∧ okE l[k] := by
  obtain ⟨b, off, cs, rfl, _, hb, ⟨c, d, rfl, ⟨rfl, h1⟩, c2, d2, rfl, ⟨rfl, h2⟩, ⟨rfl, h3⟩⟩, hc⟩ := h.at k hk
  exact ⟨b, off, rfl, hb, hc 0 (by decide), hc 1 (by decide), hc 2 (by decide), h1, h2, h3⟩
def keysM (l : List EdgeD) : List (List UInt8) := l.map (fun x => key3 x.1 x.2.1 x.2.2)
theorem keysM_take (l : List EdgeD) (k : Nat) (h : k < l.length) : (keysM l).take (k + 1) = (keysM l).take k ++ [key3 l[k].1 l[k].2.1 l[k].2.2] := by
  unfold keysM
  rw [List.take_succ_eq_append_getElem (by simpa using h), List.getElem_map]
def KeysRet (L : List (List UInt8)) (w : World) (e : Ending) (w' : World) : Prop :=
  ∃ ao cap, e = .returned (.slice ao L.length cap) ∧ L.length ≤ cap ∧ cap ≤ maxLen ∧ RdS (Rep.slice Rep.u8) (fun k => w.heap.size ≤ k) w' ao L ∧ Below w.heap.size w w'
def ksI (l : List EdgeD) (w : World) (o i : Value) (wr : World) : Prop :=
  ∃ (k : Nat) (ao : Option Addr) (cap : Nat) (g : Option Nat) (fe : Nat → Prop), k ≤ l.length ∧ i = .int .i64 (k : Nat) ∧ o = .slice ao k cap ∧ OwnS (Rep.slice Rep.u8) fe wr ao cap g 68 ((keysM l).take k) ∧
    (∀ b, fe b → w.heap.size ≤ b ∧ b < wr.heap.size ∧ g ≠ some b) ∧ (∀ b, g = some b → w.heap.size ≤ b) ∧ Below w.heap.size w wr
theorem rowsElem : Elem Tryz.prog 65 68 1 24 (.slice none 0 0) := Elem.mk' Tryz.underlying65 (by kernel_rfl) rfl (by decide)

def insR (x : EdgeD) (out : List EdgeD) : List EdgeD := out.takeWhile (fun e => !belowE x e) ++ [x] ++ out.dropWhile (fun e => !belowE x e)
def sortR (l : List EdgeD) : List EdgeD := l.foldl (fun out x => insR x out) []
theorem insR_len (x : EdgeD) (out : List EdgeD) : (insR x out).length = out.length + 1 := by
  unfold insR
  have := congrArg List.length (List.takeWhile_append_dropWhile (p := fun e => !belowE x e) (l := out))
  simp only [List.length_append, List.length_singleton] at this ⊢
  omega
theorem sortR_len : ∀ (l : List EdgeD), (sortR l).length = l.length := by
  intro l
  have h : ∀ (l : List EdgeD) (out : List EdgeD), (l.foldl (fun out x => insR x out) out).length = out.length + l.length := by
    intro l
    induction l with
    | nil => intro out; rfl
    | cons x l ih => intro out; rw [List.foldl_cons, ih, insR_len, List.length_cons]; omega
  have := h l []
  simpa [sortR] using this
def EdgesRet (L : List EdgeD) (w : World) (e : Ending) (w' : World) : Prop :=
  ∃ ao cap, e = .returned (.slice ao L.length cap) ∧ L.length ≤ cap ∧ cap ≤ maxLen ∧ RdS edgeRep (fun k => w.heap.size ≤ k) w' ao L ∧ Below w.heap.size w w'
def stI (l : List EdgeD) (w : World) (o i : Value) (wr : World) : Prop :=
  ∃ (k b cap : Nat), k ≤ l.length ∧ i = .int .i64 (k : Nat) ∧ o = .slice (some ⟨b, 0, none⟩) k cap ∧ k ≤ cap ∧ cap ≤ maxLen ∧ RdS edgeRep (fun k => w.heap.size ≤ k) wr (some ⟨b, 0, none⟩) (sortR (l.take k)) ∧ Below w.heap.size w wr
def atI (n : Nat) (w : World) (i : Value) (wr : World) : Prop := ∃ j : Nat, j ≤ n ∧ i = .int .i64 (j : Nat) ∧ Below w.heap.size w wr

end Go.Proofs.YtcklfffeimnfeaaGreat

namespace Go.Proofs.YtcklfffeimnfeaaGreat
set_option linter.unusedSimpArgs false
set_option linter.unusedVariables false
set_option maxRecDepth 100000
open Go.RowKit

def zeroW (l : List EdgeD) : Bool := l.any fun x => x.2.2 == 0
def ofM (l : List EdgeD) : List RowD × Nat := if zeroW l = true then ([], 9) else rrows (keysM (sortR l))
def ofI (l : List EdgeD) (w : World) (i : Value) (wr : World) : Prop := ∃ k : Nat, k ≤ l.length ∧ i = .int .i64 (k : Nat) ∧ zeroW (l.take k) = false ∧ Below w.heap.size w wr
theorem zeroW_take (l : List EdgeD) (k : Nat) (h : k < l.length) : zeroW (l.take (k + 1)) = (zeroW (l.take k) || l[k].2.2 == 0) := by
  unfold zeroW
  rw [List.take_succ_eq_append_getElem h, List.any_append]
  simp
theorem zeroW_at {l : List EdgeD} {k : Nat} (h : k < l.length) (e : l[k].2.2 = 0) : zeroW l = true := by
  unfold zeroW
  rw [List.any_eq_true]
  exact ⟨l[k], List.getElem_mem h, by simp [e]⟩
/-- a vertex's arcs -/
def arcs15M (rows : List RowD) (v : Nat) : List ArcD := match rows.find? (fun r => r.1 == v) with
  | some r => r.2
  | none => []
def ArcsOf (l : List ArcD) (fp : Nat → Prop) (w : World) (e : Ending) (w' : World) : Prop :=
  ∃ a c, e = .returned (.slice a l.length c) ∧ l.length ≤ c ∧ c ≤ maxLen ∧ RdS arcRep fp w' a l ∧ Below w.heap.size w w'
def arcs15I (rows : List RowD) (v : Nat) (w : World) (i : Value) (wr : World) : Prop := ∃ k : Nat, k ≤ rows.length ∧ i = .int .i64 (k : Nat) ∧ (rows.take k).find? (fun r => r.1 == v) = none ∧ Below w.heap.size w wr
end Go.Proofs.YtcklfffeimnfeaaGreat

namespace Go.Proofs.YtcklfffeimnfeaaGreat
set_option linter.unusedSimpArgs false
set_option linter.unusedVariables false
set_option maxRecDepth 100000
open Go.RowKit

def wt (l : List EdgeD) (f t : Nat) : Nat := (l.map (fun x => if x.1 = f ∧ x.2.1 = t then x.2.2 else 0)).sum
def outw (l : List EdgeD) (f : Nat) : Nat := (l.map (fun x => if x.1 = f then x.2.2 else 0)).sum
theorem wt_append (l m : List EdgeD) (f t : Nat) : wt (l ++ m) f t = wt l f t + wt m f t := by simp [wt]
theorem outw_append (l m : List EdgeD) (f : Nat) : outw (l ++ m) f = outw l f + outw m f := by simp [outw]
theorem wt_one (x : EdgeD) (f t : Nat) : wt [x] f t = if x.1 = f ∧ x.2.1 = t then x.2.2 else 0 := by simp [wt]
theorem outw_one (x : EdgeD) (f : Nat) : outw [x] f = if x.1 = f then x.2.2 else 0 := by simp [outw]
theorem wt_le_outw (l : List EdgeD) (f t : Nat) : wt l f t ≤ outw l f := by
  induction l with
  | nil => simp [wt, outw]
  | cons x l ih =>
    have h1 := wt_append [x] l f t
    have h2 := outw_append [x] l f
    rw [wt_one] at h1
    rw [outw_one] at h2
    simp only [List.singleton_append] at h1 h2
    rw [h1, h2]
    by_cases ha : x.1 = f
    · rw [if_pos ha]; split <;> omega
    · rw [if_neg ha, if_neg (fun h => ha h.1)]; omega
theorem wt_mem {l : List EdgeD} {f t : Nat} (h : 0 < wt l f t) : ∃ x ∈ l, x.1 = f ∧ x.2.1 = t := by
  induction l with
  | nil => simp [wt] at h
  | cons x l ih =>
    have h1 := wt_append [x] l f t
    rw [wt_one] at h1
    simp only [List.singleton_append] at h1
    by_cases ha : x.1 = f ∧ x.2.1 = t
    · exact ⟨x, by simp, ha⟩
    · rw [if_neg ha] at h1
      obtain ⟨y, hy, hy2⟩ := ih (by omega)
      exact ⟨y, by simp [hy], hy2⟩
theorem outw_mem {l : List EdgeD} {f : Nat} (h : 0 < outw l f) : ∃ x ∈ l, x.1 = f := by
  induction l with
  | nil => simp [outw] at h
  | cons x l ih =>
    have h1 := outw_append [x] l f
    rw [outw_one] at h1
    simp only [List.singleton_append] at h1
    by_cases ha : x.1 = f
    · exact ⟨x, by simp, ha⟩
    · rw [if_neg ha] at h1
      obtain ⟨y, hy, hy2⟩ := ih (by omega)
      exact ⟨y, by simp [hy], hy2⟩
def canonArcs (l : List ArcD) : Prop := l ≠ [] ∧ l.Pairwise (fun a b => a.1 < b.1) ∧ ∀ a ∈ l, 0 < a.2
def canonR (R : List RowD) : Prop := R.Pairwise (fun a b => a.1 < b.1) ∧ ∀ r ∈ R, canonArcs r.2
/-- the rows have each pair's weight -/
def reprR (R : List RowD) (W : Nat → Nat → Nat) : Prop := ∀ f t v, (∃ r ∈ R, r.1 = f ∧ (t, v) ∈ r.2) ↔ (v = W f t ∧ 0 < v)
/-- an edge behind what is there -/
def leE (x y : EdgeD) : Prop := x.1 < y.1 ∨ (x.1 = y.1 ∧ x.2.1 ≤ y.2.1)
def domR (R : List RowD) (x : EdgeD) : Prop := ∀ r ∈ R, r.1 < x.1 ∨ (r.1 = x.1 ∧ ∀ a ∈ r.2, a.1 ≤ x.2.1)
theorem domR.mono {R : List RowD} {x y : EdgeD} (h : domR R x) (hxy : leE x y) : domR R y := fun r hr => by
  rcases h r hr with h1 | ⟨h1, h2⟩
  · rcases hxy with h3 | ⟨h3, _⟩
    · exact .inl (by omega)
    · exact .inl (by omega)
  · rcases hxy with h3 | ⟨h3, h4⟩
    · exact .inl (by omega)
    · exact .inr ⟨by omega, fun a ha => Nat.le_trans (h2 a ha) h4⟩
theorem leE_of {x y : EdgeD} (h : belowE y x = false) : leE x y := by
  unfold belowE at h
  unfold leE
  by_cases h1 : y.1 = x.1
  · rw [if_pos h1] at h
    by_cases h2 : y.2.1 = x.2.1
    · exact .inr ⟨h1.symm, by omega⟩
    · rw [if_neg h2] at h
      have : ¬ y.2.1 < x.2.1 := by simpa using h
      exact .inr ⟨h1.symm, by omega⟩
  · rw [if_neg h1] at h
    have : ¬ y.1 < x.1 := by simpa using h
    exact .inl (by omega)
/-- the state behind the edges p -/
structure CanS (R : List RowD) (p : List EdgeD) : Prop where
  can : canonR R
  rep : reprR R (wt p)
  sums : ∀ r ∈ R, sumA r.2 = outw p r.1 ∧ sumA r.2 ≤ 2147483647
  all : ∀ x ∈ p, ∃ r ∈ R, r.1 = x.1
theorem CanS.nil : CanS [] [] := ⟨⟨.nil, by simp⟩, fun f t v => by simp [wt], by simp, by simp⟩
theorem CanS.build {A : List RowD} {p : List EdgeD} {x : EdgeD} {arcs : List ArcD} (hA1 : A.Pairwise (fun a b => a.1 < b.1)) (hA2 : ∀ r ∈ A, canonArcs r.2) (hlt : ∀ r ∈ A, r.1 < x.1)
    (hrep : ∀ f t v, f ≠ x.1 → ((∃ r ∈ A, r.1 = f ∧ (t, v) ∈ r.2) ↔ (v = wt p f t ∧ 0 < v))) (hsum : ∀ r ∈ A, sumA r.2 = outw p r.1 ∧ sumA r.2 ≤ 2147483647) (hall : ∀ y ∈ p, y.1 ≠ x.1 → ∃ r ∈ A, r.1 = y.1)
    (ha : canonArcs arcs) (hm : ∀ t v, (t, v) ∈ arcs ↔ (v = wt (p ++ [x]) x.1 t ∧ 0 < v)) (hs : sumA arcs = outw p x.1 + x.2.2) (hle : sumA arcs ≤ 2147483647) (hd : ∀ a ∈ arcs, a.1 ≤ x.2.1) :
    CanS (A ++ [(x.1, arcs)]) (p ++ [x]) ∧ domR (A ++ [(x.1, arcs)]) x := by
  refine ⟨⟨⟨?_, fun r hr => ?_⟩, fun f t v => ?_, fun r hr => ?_, fun y hy => ?_⟩, fun r hr => ?_⟩
  · rw [List.pairwise_append]
    exact ⟨hA1, by simp, fun a ha b hb => by rw [List.mem_singleton.1 hb]; exact hlt a ha⟩
  · rcases List.mem_append.1 hr with h | h
    · exact hA2 r h
    · rw [List.mem_singleton.1 h]; exact ha
  · by_cases hf : f = x.1
    · subst hf
      constructor
      · rintro ⟨r, hr, hrf, hrt⟩
        rcases List.mem_append.1 hr with h | h
        · have := hlt r h; omega
        · rw [List.mem_singleton.1 h] at hrt
          exact (hm t v).1 hrt
      · intro h
        exact ⟨(x.1, arcs), by simp, rfl, (hm t v).2 h⟩
    · have hw : wt (p ++ [x]) f t = wt p f t := by rw [wt_append, wt_one, if_neg (fun h => hf h.1.symm)]; rfl
      rw [hw, ← hrep f t v hf]
      constructor
      · rintro ⟨r, hr, hrf, hrt⟩
        rcases List.mem_append.1 hr with h | h
        · exact ⟨r, h, hrf, hrt⟩
        · rw [List.mem_singleton.1 h] at hrf
          exact absurd hrf.symm hf
      · rintro ⟨r, hr, hrf, hrt⟩
        exact ⟨r, List.mem_append.2 (.inl hr), hrf, hrt⟩
  · rw [outw_append, outw_one]
    rcases List.mem_append.1 hr with h | h
    · have := hlt r h
      rw [if_neg (by omega)]
      exact hsum r h
    · rw [List.mem_singleton.1 h, if_pos rfl]
      exact ⟨hs, hle⟩
  · rcases List.mem_append.1 hy with h | h
    · by_cases hf : y.1 = x.1
      · exact ⟨(x.1, arcs), by simp, hf.symm⟩
      · obtain ⟨r, hr, he⟩ := hall y h hf
        exact ⟨r, List.mem_append.2 (.inl hr), he⟩
    · rw [List.mem_singleton.1 h]; exact ⟨(x.1, arcs), by simp, rfl⟩
  · rcases List.mem_append.1 hr with h | h
    · exact .inl (hlt r h)
    · rw [List.mem_singleton.1 h]; exact .inr ⟨rfl, hd⟩
theorem CanS.new {R : List RowD} {p : List EdgeD} {x : EdgeD} (hs : CanS R p) (hx : x.2.2 ≠ 0) (hm : x.2.2 ≤ 2147483647) (hlt : ∀ r ∈ R, r.1 < x.1) : CanS (R ++ [(x.1, [(x.2.1, x.2.2)])]) (p ++ [x]) ∧ domR (R ++ [(x.1, [(x.2.1, x.2.2)])]) x := by
  have h0 : outw p x.1 = 0 := by
    rcases Nat.eq_zero_or_pos (outw p x.1) with h | h
    · exact h
    · obtain ⟨y, hy, hyf⟩ := outw_mem h
      obtain ⟨r, hr, hrf⟩ := hs.all y hy
      have := hlt r hr; omega
  refine CanS.build hs.can.1 hs.can.2 hlt (fun f t v _ => hs.rep f t v) hs.sums (fun y hy _ => hs.all y hy) ⟨by simp, by simp, fun a ha => by rw [List.mem_singleton.1 ha]; simp only; omega⟩ (fun t v => ?_) (by rw [sumA_one, h0]; simp) (by rw [sumA_one]; exact hm) (fun a ha => by rw [List.mem_singleton.1 ha]; exact Nat.le_refl _)
  have hw := wt_le_outw p x.1 t
  rw [wt_append, wt_one, List.mem_singleton, Prod.mk.injEq]
  constructor
  · rintro ⟨rfl, rfl⟩; rw [if_pos ⟨rfl, rfl⟩]; omega
  · rintro ⟨h1, h2⟩
    by_cases h : x.2.1 = t
    · rw [if_pos ⟨rfl, h⟩] at h1; exact ⟨h.symm, by omega⟩
    · rw [if_neg (fun e => h e.2)] at h1; omega
theorem CanS.step {R : List RowD} {p : List EdgeD} {x : EdgeD} (hs : CanS R p) (hd : domR R x) (hx : x.2.2 ≠ 0) (hm : hasR R x + x.2.2 ≤ 2147483647) : CanS (withR R x) (p ++ [x]) ∧ domR (withR R x) x := by
  rcases List.eq_nil_or_concat R with rfl | ⟨A, r, h⟩
  · exact hs.new hx (by omega) (by simp)
  · rw [List.concat_eq_append] at h
    subst h
    have hpw := List.pairwise_append.1 hs.can.1
    have hAr : ∀ q ∈ A, q.1 < r.1 := fun q hq => hpw.2.2 q hq r (by simp)
    rw [hasR_of] at hm
    unfold withR
    rw [List.getLast?_concat]
    simp only [List.dropLast_concat]
    by_cases h1 : r.1 = x.1
    · rw [if_pos h1] at hm ⊢
      have hcr := hs.can.2 r (by simp)
      have hdr : ∀ a ∈ r.2, a.1 ≤ x.2.1 := by
        rcases hd r (by simp) with h | h
        · omega
        · exact h.2
      have hsr := hs.sums r (by simp)
      have hmr : ∀ t v, (t, v) ∈ r.2 ↔ (v = wt p x.1 t ∧ 0 < v) := fun t v => by
        rw [← hs.rep x.1 t v]
        constructor
        · exact fun h => ⟨r, by simp, h1, h⟩
        · rintro ⟨q, hq, hqf, hqt⟩
          rcases List.mem_append.1 hq with h | h
          · have := hAr q h; omega
          · rw [List.mem_singleton.1 h] at hqt; exact hqt
      have hrepA : ∀ f t v, f ≠ x.1 → ((∃ r ∈ A, r.1 = f ∧ (t, v) ∈ r.2) ↔ (v = wt p f t ∧ 0 < v)) := fun f t v hf => by
        rw [← hs.rep f t v]
        constructor
        · rintro ⟨q, hq, h⟩; exact ⟨q, List.mem_append.2 (.inl hq), h⟩
        · rintro ⟨q, hq, hqf, hqt⟩
          rcases List.mem_append.1 hq with h | h
          · exact ⟨q, h, hqf, hqt⟩
          · rw [List.mem_singleton.1 h] at hqf; omega
      have hallA : ∀ y ∈ p, y.1 ≠ x.1 → ∃ r ∈ A, r.1 = y.1 := fun y hy hf => by
        obtain ⟨q, hq, he⟩ := hs.all y hy
        rcases List.mem_append.1 hq with h | h
        · exact ⟨q, h, he⟩
        · rw [List.mem_singleton.1 h] at he; omega
      have hsum : sumA (addArc r.2 x) = outw p x.1 + x.2.2 := by rw [addArc_sum, hsr.1, h1]
      refine CanS.build hpw.1 (fun q hq => hs.can.2 q (List.mem_append.2 (.inl hq))) (fun q hq => by have := hAr q hq; omega) hrepA (fun q hq => hs.sums q (List.mem_append.2 (.inl hq))) hallA ?_ (fun t v => ?_) hsum (by rw [addArc_sum]; omega) (fun a ha => ?_)
      all_goals
        obtain ⟨B, a', hB⟩ : ∃ B a', r.2 = B ++ [a'] := by
          rcases List.eq_nil_or_concat r.2 with h | ⟨B, a', h⟩
          · exact absurd h hcr.1
          · exact ⟨B, a', by rw [h, List.concat_eq_append]⟩
        rw [hB] at hcr hdr hmr
        have hpb := List.pairwise_append.1 hcr.2.1
        have hBa : ∀ b ∈ B, b.1 < a'.1 := fun b hb => hpb.2.2 b hb a' (by simp)
        have hda := hdr a' (by simp)
      · rw [hB, addArc_snoc]
        split
        · refine ⟨by simp, ?_, fun a ha => ?_⟩
          · rw [List.pairwise_append]
            exact ⟨hpb.1, by simp, fun b hb c hc => by rw [List.mem_singleton.1 hc]; exact hBa b hb⟩
          · rcases List.mem_append.1 ha with h | h
            · exact hcr.2.2 a (List.mem_append.2 (.inl h))
            · rw [List.mem_singleton.1 h]; simp only; omega
        · rename_i hne
          refine ⟨by simp, ?_, fun a ha => ?_⟩
          · rw [List.pairwise_append]
            refine ⟨hcr.2.1, by simp, fun b hb c hc => ?_⟩
            rw [List.mem_singleton.1 hc]
            simp only
            rcases List.mem_append.1 hb with h | h
            · have := hBa b h; omega
            · rw [List.mem_singleton.1 h]; omega
          · rcases List.mem_append.1 ha with h | h
            · exact hcr.2.2 a h
            · rw [List.mem_singleton.1 h]; simp only; omega
      · rw [hB, addArc_snoc, wt_append, wt_one]
        split
        · rename_i he
          constructor
          · intro h
            rcases List.mem_append.1 h with h | h
            · have hb := hBa _ h
              simp only at hb
              rw [if_neg (fun e => by omega)]
              exact (hmr t v).1 (List.mem_append.2 (.inl h))
            · rw [List.mem_singleton, Prod.mk.injEq] at h
              obtain ⟨rfl, rfl⟩ := h
              have h3 := (hmr a'.1 a'.2).1 (by simp)
              rw [if_pos ⟨rfl, he.symm⟩]
              omega
          · rintro ⟨h2, h3⟩
            by_cases ht : x.2.1 = t
            · rw [if_pos ⟨rfl, ht⟩] at h2
              have h4 := (hmr a'.1 a'.2).1 (by simp)
              rw [he, ht] at h4
              exact List.mem_append.2 (.inr (by rw [List.mem_singleton, Prod.mk.injEq]; exact ⟨by omega, by omega⟩))
            · rw [if_neg (fun e => ht e.2)] at h2
              have h4 := (hmr t v).2 ⟨by omega, h3⟩
              rcases List.mem_append.1 h4 with h | h
              · exact List.mem_append.2 (.inl h)
              · have h5 := List.mem_singleton.1 h
                have h6 : t = a'.1 := by rw [← h5]
                omega
        · rename_i hne
          have hz : wt p x.1 x.2.1 = 0 := by
            rcases Nat.eq_zero_or_pos (wt p x.1 x.2.1) with h | h
            · exact h
            · have h4 := (hmr x.2.1 _).2 ⟨rfl, h⟩
              rcases List.mem_append.1 h4 with h | h
              · have := hBa _ h; simp only at this; omega
              · have h5 := List.mem_singleton.1 h
                have h6 : x.2.1 = a'.1 := by rw [← h5]
                omega
          constructor
          · intro h
            rcases List.mem_append.1 h with h | h
            · have h4 := (hmr t v).1 h
              by_cases ht : x.2.1 = t
              · rw [← ht] at h4; omega
              · rw [if_neg (fun e => ht e.2)]; omega
            · rw [List.mem_singleton, Prod.mk.injEq] at h
              obtain ⟨rfl, rfl⟩ := h
              rw [if_pos ⟨rfl, rfl⟩]; omega
          · rintro ⟨h2, h3⟩
            by_cases ht : x.2.1 = t
            · rw [if_pos ⟨rfl, ht⟩, ← ht] at h2
              exact List.mem_append.2 (.inr (by rw [List.mem_singleton, Prod.mk.injEq]; exact ⟨ht.symm, by omega⟩))
            · rw [if_neg (fun e => ht e.2)] at h2
              exact List.mem_append.2 (.inl ((hmr t v).2 ⟨by omega, h3⟩))
      · rw [hB, addArc_snoc] at ha
        split at ha
        · rcases List.mem_append.1 ha with h | h
          · have := hBa _ h; omega
          · rw [List.mem_singleton.1 h]; exact hda
        · rcases List.mem_append.1 ha with h | h
          · exact hdr a h
          · rw [List.mem_singleton.1 h]; exact Nat.le_refl _
    · rw [if_neg h1] at hm ⊢
      have hlt : ∀ q ∈ A ++ [r], q.1 < x.1 := fun q hq => by
        rcases hd q hq with h | h
        · exact h
        · rcases List.mem_append.1 hq with h2 | h2
          · have h3 := hAr q h2
            rcases hd r (by simp) with h4 | h4
            · omega
            · exact absurd h4.1 h1
          · rw [List.mem_singleton.1 h2] at h; exact absurd h.1 h1
      exact hs.new hx (by omega) hlt
end Go.Proofs.YtcklfffeimnfeaaGreat
