/- The reference's rows: Rows. -/
import Derived.Test.YtafbjkbdfdeacaaMergeRef1
namespace Go.Proofs.Ytafbjkbdfdeacaa
set_option linter.unusedSimpArgs false
set_option linter.unusedVariables false
open Go.RowKit

def hasR (out : List RowD) (x : EdgeD) : Nat := match out.getLast? with
  | some r => if r.1 = x.1 then sumA r.2 else 0
  | none => 0
def isBelow (lastE : Option EdgeD) (x : EdgeD) : Bool := match lastE with
  | some l => belowE x l
  | none => false
/-- as the reference goes through the keys -/
def rrowsGo (out : List RowD) (lastE : Option EdgeD) : List (List UInt8) → List RowD × Nat
  | [] => (out, 0)
  | k :: ks =>
    if k.length ≠ 12 ∨ (keyE k).2.2 = 0 then ([], 3) else
    if isBelow lastE (keyE k) = true then ([], 13) else
    if 2147483647 < hasR out (keyE k) + (keyE k).2.2 then ([], 10) else rrowsGo (withR out (keyE k)) (some (keyE k)) ks
def flushR (row : RowD) : List RowD := if 0 < row.2.length then [row] else []
theorem flushR_pos {row : RowD} (h : 0 < row.2.length) : flushR row = [row] := if_pos h
theorem takeM_pos (row : RowD) (x : EdgeD) : 0 < (takeM row x).2.length := (takeM_len row x).2
theorem keyE_key {k : List UInt8} (h : k.length = 12) : key3 (keyE k).1 (keyE k).2.1 (keyE k).2.2 = k := by
  unfold keyE
  rw [if_pos h]
  exact (key3_keyOf k h).1
theorem belowE_keys {k l : List UInt8} (hk : k.length = 12) (hl : l.length = 12) : belowE (keyE k) (keyE l) = decide (Lib.compareBytes k l < 0) := by
  rw [Bool.eq_iff_iff, belowE_key _ _ (keyE_ok k) (keyE_ok l), keyE_key hk, keyE_key hl, decide_eq_true_eq, cmp_lt]
theorem withR_step (done : List RowD) (row : RowD) (x : EdgeD) (h : 0 < row.2.length ∨ done = []) : withR (done ++ flushR row) x = done ++ (if fullB row x = true then [row] else []) ++ flushR (takeM row x) := by
  rw [flushR_pos (takeM_pos row x)]
  by_cases h0 : 0 < row.2.length
  · rw [flushR_pos h0]
    unfold withR
    rw [List.getLast?_concat]
    simp only [List.dropLast_concat]
    by_cases h1 : row.1 = x.1
    · have hf : fullB row x = false := by simp [fullB, h1]
      have ht : takeM row x = (row.1, addArc row.2 x) := if_pos ⟨h0, h1⟩
      rw [if_pos h1, hf, ht, h1]
      simp
    · have hf : fullB row x = true := by simp [fullB, h0, h1]
      have ht : takeM row x = (x.1, [(x.2.1, x.2.2)]) := if_neg (fun h => h1 h.2)
      rw [if_neg h1, hf, ht]
      simp
  · obtain rfl : done = [] := h.resolve_left h0
    have hf : fullB row x = false := by simp [fullB, h0]
    have ht : takeM row x = (x.1, [(x.2.1, x.2.2)]) := if_neg (fun h => h0 h.1)
    have hfl : flushR row = [] := if_neg h0
    rw [hf, ht, hfl]
    simp [withR]
theorem hasR_left (done : List RowD) (row : RowD) (x : EdgeD) (h : 0 < row.2.length ∨ done = []) (hs : sumA row.2 ≤ 2147483647) : (2147483647 < hasR (done ++ flushR row) x + x.2.2) ↔ leftOf row x < x.2.2 := by
  unfold leftOf hasR
  by_cases h0 : 0 < row.2.length
  · rw [flushR_pos h0, List.getLast?_concat]
    simp only
    by_cases h1 : row.1 = x.1
    · rw [if_pos h1, if_pos ⟨h0, h1⟩]; omega
    · rw [if_neg h1, if_neg (fun h => h1 h.2)]; omega
  · obtain rfl : done = [] := h.resolve_left h0
    have hfl : flushR row = [] := if_neg h0
    rw [hfl, if_neg (fun h => h0 h.1)]
    simp
theorem rrowsGo_told : ∀ (ks : List (List UInt8)) (done : List RowD) (row : RowD) (lastE : Option EdgeD) (last : List UInt8), okRow row →
    ((lastE = none ∧ last = [] ∧ done = [] ∧ row.2.length = 0) ∨ (last.length = 12 ∧ lastE = some (keyE last) ∧ 0 < row.2.length)) →
    rrowsGo (done ++ flushR row) lastE ks = if (mtold row last ks).2 = 0 then (done ++ (mtold row last ks).1, 0) else ([], (mtold row last ks).2)
  | [], done, row, lastE, last, hok, h => by
    unfold rrowsGo mtold
    rw [if_pos rfl]
    rfl
  | k :: ks, done, row, lastE, last, hok, h => by
    have hd : 0 < row.2.length ∨ done = [] := by rcases h with ⟨_, _, h, _⟩ | ⟨_, _, h⟩; exact .inr h; exact .inl h
    unfold rrowsGo mtold
    by_cases h1 : k.length ≠ 12 ∨ (keyE k).2.2 = 0
    · have he : mayErr row last k = 3 := if_pos h1
      rw [if_pos h1, he]
      simp
    · rw [if_neg h1]
      have hk12 : k.length = 12 := by omega
      have hb : isBelow lastE (keyE k) = decide (Lib.compareBytes k last < 0) := by
        rcases h with ⟨rfl, rfl, _, _⟩ | ⟨hl, rfl, _⟩
        · show false = _
          cases k <;> simp [Lib.compareBytes]
        · exact belowE_keys hk12 hl
      by_cases h2 : Lib.compareBytes k last < 0
      · have he : mayErr row last k = 13 := by unfold mayErr; rw [if_neg h1, if_pos h2]
        rw [hb, if_pos (by simpa using h2), he]
        simp
      · rw [hb, if_neg (by simpa using h2)]
        have hl := hasR_left done row (keyE k) hd hok.2.2
        by_cases h3 : leftOf row (keyE k) < (keyE k).2.2
        · have he : mayErr row last k = 10 := by unfold mayErr; rw [if_neg h1, if_neg h2, if_pos h3]
          rw [if_pos (hl.2 h3), he]
          simp
        · have he : mayErr row last k = 0 := by unfold mayErr; rw [if_neg h1, if_neg h2, if_neg h3]
          rw [if_neg (fun h => h3 (hl.1 h)), he, withR_step done row (keyE k) hd]
          rw [rrowsGo_told ks (done ++ if fullB row (keyE k) = true then [row] else []) (takeM row (keyE k)) (some (keyE k)) k (takeM_ok hok (keyE_ok k) (may_ok he).2.2.2) (.inr ⟨hk12, rfl, takeM_pos row (keyE k)⟩)]
          simp only [ne_eq, not_true_eq_false, if_false, List.append_assoc]
def rrows (ks : List (List UInt8)) : List RowD × Nat := rrowsGo [] none ks
theorem rrows_rows (ks : List (List UInt8)) : rrows ks = rowsOf ks := by
  have h := rrowsGo_told ks [] (0, []) none [] ⟨by simp, by simp, by simp [sumA]⟩ (.inl ⟨rfl, rfl, rfl, rfl⟩)
  unfold rrows rowsOf
  simpa [flushR] using h
theorem rof_any (l : List UInt8) (ao : Option Addr) (cap : Nat) (w : World) (hcap : l.length ≤ cap) (hrd : Rd w ao l.length (byteVals l)) :
    Calls Try.prog 17 #[.slice ao l.length cap] w fun e w' => e = .returned (.tuple #[edgeV (keyE l), .bool (decide (l.length = 12))]) ∧ Below w.heap.size w w' := by
  unfold keyE
  by_cases h : l.length = 12
  · rw [if_pos h, decide_eq_true h]
    exact rof_yes l ao cap w h hcap hrd
  · rw [if_neg h, decide_eq_false h]
    exact rof_no l.length cap ao w h
def lastV (lastE : Option EdgeD) : EdgeD := lastE.getD (0, 0, 0)
structure RrS (recs : List (List UInt8)) (w : World) (k : Nat) (out : List RowD) (lastE : Option EdgeD) (ao : Option Addr) (cap : Nat) (wr : World) : Prop where
  hk : k ≤ recs.length
  go : rrows recs = rrowsGo out lastE (recs.drop k)
  k0 : lastE = none → k = 0 ∧ out = []
  k1 : ∀ l, lastE = some l → 0 < k ∧ okE l ∧ out ≠ []
  len : out.length ≤ k
  rows : ∀ A r, out = A ++ [r] → 0 < r.2.length ∧ r.2.length ≤ k ∧ sumA r.2 ≤ 2147483647
  c0 : wr.cell? ⟨w.heap.size + 1, 0, none⟩ = some (.int .u32 ((lastV lastE).1 : Nat))
  c1 : wr.cell? ⟨w.heap.size + 1, 1, none⟩ = some (.int .u32 ((lastV lastE).2.1 : Nat))
  c2 : wr.cell? ⟨w.heap.size + 1, 2, none⟩ = some (.int .u32 ((lastV lastE).2.2 : Nat))
  f0 : ∀ j, wr.frozen? ⟨w.heap.size + 1, j, none⟩ = false
  rd : RdS rowRep (fun b => w.heap.size ≤ b ∧ b ≠ w.heap.size + 1 ∧ b < wr.heap.size) wr ao out
  capLe : out.length ≤ cap ∧ cap ≤ maxLen
  below : Below w.heap.size w wr
  sz : w.heap.size + 2 ≤ wr.heap.size
def rrI (recs : List (List UInt8)) (w : World) (o i : Value) (wr : World) : Prop :=
  ∃ k out lastE ao cap, i = .int .i64 (k : Nat) ∧ o = .slice ao out.length cap ∧ RrS recs w k out lastE ao cap wr
theorem withR_last (out : List RowD) (x : EdgeD) : ∃ A r, withR out x = A ++ [r] ∧ (withR out x).length ≤ out.length + 1 ∧
    ((∃ A' r', out = A' ++ [r'] ∧ r'.1 = x.1 ∧ r = (x.1, addArc r'.2 x)) ∨ r = (x.1, [(x.2.1, x.2.2)])) := by
  rcases List.eq_nil_or_concat out with rfl | ⟨A, r, h⟩
  · exact ⟨[], _, rfl, by simp [withR], .inr rfl⟩
  · rw [List.concat_eq_append] at h
    subst h
    unfold withR
    rw [List.getLast?_concat]
    simp only [List.dropLast_concat]
    by_cases h1 : r.1 = x.1
    · rw [if_pos h1]
      exact ⟨A, _, rfl, by simp, .inl ⟨A, r, rfl, h1, rfl⟩⟩
    · rw [if_neg h1]
      exact ⟨A ++ [r], _, rfl, by simp, .inr rfl⟩
theorem snoc_inj {α : Type} {A B : List α} {a b : α} (h : A ++ [a] = B ++ [b]) : A = B ∧ a = b := by
  have := List.append_inj' h rfl
  exact ⟨this.1, by simpa using this.2⟩
theorem hasR_of {A : List RowD} {r : RowD} {x : EdgeD} : hasR (A ++ [r]) x = if r.1 = x.1 then sumA r.2 else 0 := by
  unfold hasR
  rw [List.getLast?_concat]
/-- a round that goes on -/
theorem RrS.step {recs : List (List UInt8)} {w : World} {k : Nat} {out : List RowD} {lastE : Option EdgeD} {ao : Option Addr} {cap : Nat} {wr : World} (h : RrS recs w k out lastE ao cap wr) (hk : k < recs.length) {r : List UInt8} {x : EdgeD} (hr : recs.drop k = r :: recs.drop (k + 1)) (hx : keyE r = x) (h1 : ¬ (r.length ≠ 12 ∨ x.2.2 = 0)) (h2 : isBelow lastE x = false)
    (h3 : ¬ 2147483647 < hasR out x + x.2.2) {W5 W6 : World} {ao6 : Option Addr} {cap6 : Nat} (hB5 : Below wr.heap.size wr W5) (hB6 : Below W5.heap.size W5 W6) (hrd : RdS rowRep (fun b => (w.heap.size ≤ b ∧ b ≠ w.heap.size + 1 ∧ b < wr.heap.size) ∨ W5.heap.size ≤ b) W6 ao6 (withR out x)) (hc : (withR out x).length ≤ cap6 ∧ cap6 ≤ maxLen) :
    RrS recs w (k + 1) (withR out x) (some x) ao6 cap6 (((W6.setCell ⟨w.heap.size + 1, 0, none⟩ (.int .u32 (x.1 : Nat))).setCell ⟨w.heap.size + 1, 1, none⟩ (.int .u32 (x.2.1 : Nat))).setCell ⟨w.heap.size + 1, 2, none⟩ (.int .u32 (x.2.2 : Nat))) := by
  have hokx : okE x := hx ▸ keyE_ok r
  obtain ⟨A, q, hw, hwl, hq⟩ := withR_last out x
  have hB := hB5.trans (hB6.mono hB5.size)
  have hs := hB.size
  have hsz := h.sz
  have cc := fun j => (bcell hB).1 (w.heap.size + 1) j (by omega)
  have ff := fun j => (bcell hB).2 (w.heap.size + 1) j (by omega)
  have c0 := (cc 0).trans h.c0
  have c1 := (cc 1).trans h.c1
  have c2 := (cc 2).trans h.c2
  have hon : Only (fun b => b = w.heap.size + 1) W6 (((W6.setCell ⟨w.heap.size + 1, 0, none⟩ (.int .u32 (x.1 : Nat))).setCell ⟨w.heap.size + 1, 1, none⟩ (.int .u32 (x.2.1 : Nat))).setCell ⟨w.heap.size + 1, 2, none⟩ (.int .u32 (x.2.2 : Nat))) :=
    (((Only.refl (fun b => b = w.heap.size + 1) W6).setCell (p := ⟨w.heap.size + 1, 0, none⟩) (fun _ => rfl) _).setCell (p := ⟨w.heap.size + 1, 1, none⟩) (fun _ => rfl) _).setCell (p := ⟨w.heap.size + 1, 2, none⟩) (fun _ => rfl) _
  refine ⟨by omega, ?_, by simp, fun l hl => ⟨by omega, by cases hl; exact hokx, by rw [hw]; simp⟩, by have := h.len; omega, ?_, by simp [cell_set_ite, c0, lastV], by simp [cell_set_ite, c1, lastV], by simp [cell_set_ite, c2, lastV], fun j => by simp [ff, h.f0], ?_, hc, ?_, by simp; omega⟩
  · rw [h.go, hr]
    conv => lhs; unfold rrowsGo
    rw [hx, if_neg h1, h2, if_neg (by simp), if_neg h3]
  · intro A' r' e
    rw [hw] at e
    obtain ⟨_, rfl⟩ := snoc_inj e
    rcases hq with ⟨A', r', ho, hrx, rfl⟩ | rfl
    · obtain ⟨h4, h5, h6⟩ := h.rows A' r' ho
      rw [ho, hasR_of, if_pos hrx] at h3
      exact ⟨(addArc_len _ _).2, by have := (addArc_len r'.2 x).1; simp only; omega, by simp only [addArc_sum]; omega⟩
    · exact ⟨by simp, by simp, by simp only [sumA_one]; omega⟩
  · refine (hrd.only hon (fun b hb _ e => ?_)).mono (fun b hb hl => ?_)
    · have := hB5.size
      rcases hb with hb | hb
      · exact hb.2.1 e
      · omega
    · have := hB5.size
      simp at hl ⊢
      rcases hb with hb | hb
      · exact ⟨hb.1, hb.2.1, by omega⟩
      · exact ⟨by omega, by omega, hl⟩
  · exact (((h.below.trans (hB.mono h.below.size)).setCell (by simp) _).setCell (by simp) _).setCell (by simp) _
theorem RowsRet.none {w W : World} {c n : Nat} {ao : Option Addr} {r : List RowD × Nat} (h : r = ([], n)) (hB : Below w.heap.size w W) (hc : c ≤ maxLen) : RowsRet r w (.returned (.tuple #[.slice ao 0 c, .int .i64 (n : Nat)])) W := by
  subst h; exact ⟨ao, c, rfl, by simp, hc, .inl rfl, hB⟩

set_option maxRecDepth 100000 in
set_option maxHeartbeats 3200000 in
theorem rrows_any (recs : List (List UInt8)) (ao : Option Addr) (cap : Nat) (w : World) (hl : recs.length ≤ 100000) (hrd : RdS (Rep.slice Rep.u8) (fun k => k < w.heap.size) w ao recs) :
    Calls Try.prog 21 #[.slice ao recs.length cap] w (RowsRet (rrows recs) w) := by
  have Hrd := Lib.hid hrd
  clear hrd
  go_enter Try.func21, Try.ntmps21
  go_wp2_with fail
  go_loopw [4, 14] (fun o i wr => rrI recs w o i wr) (fun _ i _ => recs.length - (intOf i).toNat)
  case atStart =>
    refine ⟨0, [], none, some ⟨w.heap.size, 0, none⟩, 0, rfl, rfl, ⟨by omega, rfl, fun _ => ⟨rfl, rfl⟩, by simp, by simp, by simp, ?_, ?_, ?_, fun j => ?_, .inl rfl, by simp [maxLen], (ext_alloc w _).alloc (by simp) _, by simp⟩⟩
    all_goals simp [go_sem, ↓IntWalk.iteOmega, lastV]
  case round =>
    obtain ⟨k, out, lastE, ao', cap', rfl, rfl, hS⟩ := hrel
    have hk := hS.hk
    have HS := Lib.hid hS
    clear hS
    by_cases hlt : k < recs.length
    · obtain ⟨bb, off, cs, rfl, hbw, hbb, ⟨ra, rc, rfl, hrc1, hrc2, hrr⟩, hcell⟩ := (Hrd.out.below HS.out.below (fun _ h => h)).at k hlt
      have hce := hcell 0 Nat.one_pos
      simp only [Rep.slice, Nat.mul_one, Nat.add_zero, List.getElem?_cons_zero] at hce
      have hir : (k : Int) < (recs.length : Int) := by omega
      have hdr : recs.drop k = recs[k] :: recs.drop (k + 1) := List.drop_eq_getElem_cons hlt
      obtain ⟨r, hr⟩ : ∃ r, recs[k] = r := ⟨_, rfl⟩
      rw [hr] at hce hrr hrc1 hdr
      have hO := rof_any r ra rc wr hrc1 hrr.rdU8
      have Hdr := Lib.hid hdr
      have hgo := HS.out.go
      rw [hdr] at hgo
      conv at hgo => rhs; unfold rrowsGo
      have hok := keyE_ok r
      obtain ⟨⟨x0, x1, x2⟩, hx⟩ : ∃ x, keyE r = x := ⟨_, rfl⟩
      rw [hx] at hgo hO hok
      simp only [edgeV] at hO
      have Hx := Lib.hid hx
      have Hok := Lib.hid hok
      have HOf := Lib.hid hO
      have Hgo := Lib.hid hgo
      clear hcell hrr hr hdr hgo hO hx hok
      by_cases h1 : r.length ≠ 12 ∨ x2 = 0
      · have hg := Hgo.out
        rw [if_pos h1] at hg
        have Hbad := Lib.hid hg
        clear hg
        by_cases h12 : r.length = 12
        · have hz : x2 = 0 := by omega
          have hd : decide (r.length = 12) = true := decide_eq_true h12
          rw [hd] at HOf
          subst hz
          clear h1 hd h12
          go_wp2_with (go_at_call 17; refine HOf.out.mono ?_; rintro e W2 ⟨rfl, hB2⟩; have hs2 := hB2.size; have HB2 := Lib.hid hB2; clear hB2)
          go_ret2
          have hs := HS.out.below.size
          exact RowsRet.none Hbad.out (((HS.out.below.trans (HB2.out.mono hs)).alloc (by omega) _).alloc (by simp; omega) _) (by simp [maxLen])
        · have hd : decide (r.length = 12) = false := decide_eq_false h12
          rw [hd] at HOf
          clear h1 hd h12
          go_wp2_with (go_at_call 17; refine HOf.out.mono ?_; rintro e W2 ⟨rfl, hB2⟩; have hs2 := hB2.size; have HB2 := Lib.hid hB2; clear hB2)
          go_ret2
          have hs := HS.out.below.size
          exact RowsRet.none Hbad.out (((HS.out.below.trans (HB2.out.mono hs)).alloc (by omega) _).alloc (by simp; omega) _) (by simp [maxLen])
      · have hd : decide (r.length = 12) = true := decide_eq_true (by omega)
        rw [hd] at HOf
        have hx2 : ((x2 : Int) == 0) = false := by simp; omega
        have H1 := Lib.hid h1
        clear hd
        have hg := Hgo.out
        rw [if_neg h1] at hg
        have Hg := Lib.hid hg
        clear hg h1
        have hxb : x2 < 4294967296 := Hok.out.2.2
        have hLw : w.heap.size + 1 < wr.heap.size := by have := HS.out.sz; omega
        cases hle : lastE with
        | none =>
          subst hle
          have h2 : isBelow none (x0, x1, x2) = false := rfl
          obtain ⟨hk0, ho0⟩ := HS.out.k0 rfl
          have hko : decide ((0 : Int) < (k : Int)) = false := decide_eq_false (by omega)
          have hko2 : decide (0 < k) = false := decide_eq_false (by omega)
          have hol : decide ((0 : Int) < (out.length : Int)) = false := decide_eq_false (by simp [ho0])
          have hol2 : decide (0 < out.length) = false := decide_eq_false (by simp [ho0])
          have hhas : hasR out (x0, x1, x2) = 0 := by rw [ho0]; rfl
          by_cases h3 : 2147483647 < hasR out (x0, x1, x2) + x2
          · have hd3 : decide ((2147483647 : Int) < (x2 : Int)) = true := decide_eq_true (by omega)
            clear hk0 ho0
            go_wp2_with (go_at_call 17; refine HOf.out.mono ?_; rintro e W2 ⟨rfl, hB2⟩; have hs2 := hB2.size; have HB2 := Lib.hid hB2; clear hB2)
            obtain ⟨W3, hW3⟩ : ∃ W3, W2.alloc (Obj.cells #[Value.int IntKind.u32 (x0 : Nat), Value.int IntKind.u32 (x1 : Nat), Value.int IntKind.u32 (x2 : Nat)] 24) = W3 := ⟨_, rfl⟩
            have hBr3 : Below wr.heap.size wr W3 := by rw [← hW3]; exact HB2.out.trans ((ext_alloc W2 _).mono HB2.out.size)
            have e0 : W3.cell? ⟨W2.heap.size, 0, none⟩ = some (.int .u32 (x0 : Nat)) := by rw [← hW3]; simp [go_sem, ↓IntWalk.iteOmega]
            have e1 : W3.cell? ⟨W2.heap.size, 1, none⟩ = some (.int .u32 (x1 : Nat)) := by rw [← hW3]; simp [go_sem, ↓IntWalk.iteOmega]
            have e2 : W3.cell? ⟨W2.heap.size, 2, none⟩ = some (.int .u32 (x2 : Nat)) := by rw [← hW3]; simp [go_sem, ↓IntWalk.iteOmega]
            have hs3 : W2.heap.size + 1 ≤ W3.heap.size := by rw [← hW3]; simp
            rw [hW3]
            have HB3 := Lib.hid hBr3
            clear hW3 hBr3
            go_wp2_with fail
            go_quiet (fail)
            obtain ⟨WQ, hWQ⟩ : ∃ WQ, (W3).drewN nq = WQ := ⟨_, rfl⟩
            have e0 : WQ.cell? ⟨W2.heap.size, 0, none⟩ = some (.int .u32 (x0 : Nat)) := by rw [← hWQ]; simpa [go_sem] using e0
            have e1 : WQ.cell? ⟨W2.heap.size, 1, none⟩ = some (.int .u32 (x1 : Nat)) := by rw [← hWQ]; simpa [go_sem] using e1
            have e2 : WQ.cell? ⟨W2.heap.size, 2, none⟩ = some (.int .u32 (x2 : Nat)) := by rw [← hWQ]; simpa [go_sem] using e2
            have hBQ : Below wr.heap.size wr WQ := by rw [← hWQ]; exact below_drewN HB3.out _
            have hsQ : W2.heap.size + 1 ≤ WQ.heap.size := by rw [← hWQ]; simpa using hs3
            rw [hWQ]
            have HBQ := Lib.hid hBQ
            clear hWQ hBQ
            have Hbad := Lib.hid (show rrows recs = ([], 10) by have h := Hg.out; rw [h2, if_neg (by simp), if_pos h3] at h; exact h)
            clear h3 h2
            go_wp2_with (fail)
            go_ret2
            exact RowsRet.none Hbad.out ((HS.out.below.trans (HBQ.out.mono HS.out.below.size)).alloc (by have := HBQ.out.size; have := HS.out.below.size; omega) _) (by simp [maxLen])
          · have hd3 : decide ((2147483647 : Int) < (x2 : Int)) = false := decide_eq_false (by omega)
            have HWith := Lib.hid (fun (W' : World) (hB : Below wr.heap.size wr W') => with_any out (x0, x1, x2) _ cap' W' (by have := HS.out.len; omega) Hok.out _ (fun b (hb : w.heap.size ≤ b ∧ b ≠ w.heap.size + 1 ∧ b < wr.heap.size) => Nat.lt_of_lt_of_le hb.2.2 hB.size) (HS.out.rd.ext hB) HS.out.capLe.1 (fun A q h => by
              obtain ⟨q1, q2, q3⟩ := HS.out.rows A q h
              refine ⟨q1, by omega, fun hq => ?_⟩
              have h4 := h3
              rw [h, hasR_of, if_pos hq] at h4
              have h4 : ¬ 2147483647 < sumA q.2 + x2 := h4
              show sumA q.2 + x2 ≤ 2147483647
              omega))
            simp only [edgeV] at HWith
            have H3 := Lib.hid h3
            have H2 := Lib.hid h2
            clear h3 h2
            clear hk0 ho0
            go_wp2_with (go_at_call 17; refine HOf.out.mono ?_; rintro e W2 ⟨rfl, hB2⟩; have hs2 := hB2.size; have HB2 := Lib.hid hB2; clear hB2)
            obtain ⟨W3, hW3⟩ : ∃ W3, W2.alloc (Obj.cells #[Value.int IntKind.u32 (x0 : Nat), Value.int IntKind.u32 (x1 : Nat), Value.int IntKind.u32 (x2 : Nat)] 24) = W3 := ⟨_, rfl⟩
            have hBr3 : Below wr.heap.size wr W3 := by rw [← hW3]; exact HB2.out.trans ((ext_alloc W2 _).mono HB2.out.size)
            have e0 : W3.cell? ⟨W2.heap.size, 0, none⟩ = some (.int .u32 (x0 : Nat)) := by rw [← hW3]; simp [go_sem, ↓IntWalk.iteOmega]
            have e1 : W3.cell? ⟨W2.heap.size, 1, none⟩ = some (.int .u32 (x1 : Nat)) := by rw [← hW3]; simp [go_sem, ↓IntWalk.iteOmega]
            have e2 : W3.cell? ⟨W2.heap.size, 2, none⟩ = some (.int .u32 (x2 : Nat)) := by rw [← hW3]; simp [go_sem, ↓IntWalk.iteOmega]
            have hs3 : W2.heap.size + 1 ≤ W3.heap.size := by rw [← hW3]; simp
            rw [hW3]
            have HB3 := Lib.hid hBr3
            clear hW3 hBr3
            go_wp2_with fail
            go_quiet (fail)
            obtain ⟨WQ, hWQ⟩ : ∃ WQ, (W3).drewN nq = WQ := ⟨_, rfl⟩
            have e0 : WQ.cell? ⟨W2.heap.size, 0, none⟩ = some (.int .u32 (x0 : Nat)) := by rw [← hWQ]; simpa [go_sem] using e0
            have e1 : WQ.cell? ⟨W2.heap.size, 1, none⟩ = some (.int .u32 (x1 : Nat)) := by rw [← hWQ]; simpa [go_sem] using e1
            have e2 : WQ.cell? ⟨W2.heap.size, 2, none⟩ = some (.int .u32 (x2 : Nat)) := by rw [← hWQ]; simpa [go_sem] using e2
            have hBQ : Below wr.heap.size wr WQ := by rw [← hWQ]; exact below_drewN HB3.out _
            have hsQ : W2.heap.size + 1 ≤ WQ.heap.size := by rw [← hWQ]; simpa using hs3
            rw [hWQ]
            have HBQ := Lib.hid hBQ
            clear hWQ hBQ
            go_wp2_with (first
              | fail
              | (go_at_call 42; refine (HWith.out _ HBQ.out).mono ?_; rintro e W6 ⟨ao6, cap6, rfl, hc6, hm6, hr6, hB6⟩; have g0 := ((bcell (HBQ.out.trans (hB6.mono HBQ.out.size))).1 (w.heap.size + 1) 0 hLw).trans HS.out.c0; have g1 := ((bcell (HBQ.out.trans (hB6.mono HBQ.out.size))).1 (w.heap.size + 1) 1 hLw).trans HS.out.c1; have g2 := ((bcell (HBQ.out.trans (hB6.mono HBQ.out.size))).1 (w.heap.size + 1) 2 hLw).trans HS.out.c2; have k0 := ((bcell (HBQ.out.trans (hB6.mono HBQ.out.size))).2 (w.heap.size + 1) 0 hLw).trans (HS.out.f0 0); have k1 := ((bcell (HBQ.out.trans (hB6.mono HBQ.out.size))).2 (w.heap.size + 1) 1 hLw).trans (HS.out.f0 1); have k2 := ((bcell (HBQ.out.trans (hB6.mono HBQ.out.size))).2 (w.heap.size + 1) 2 hLw).trans (HS.out.f0 2); have j0 := ((bcell hB6).1 W2.heap.size 0 hsQ).trans e0; have j1 := ((bcell hB6).1 W2.heap.size 1 hsQ).trans e1; have j2 := ((bcell hB6).1 W2.heap.size 2 hsQ).trans e2; have Hc6 := Lib.hid (And.intro hc6 hm6); have Hr6 := Lib.hid hr6; have HB6 := Lib.hid hB6; clear hc6 hm6 hr6 hB6))
            go_roundw
            case rel => exact ⟨k + 1, _, _, ao6, cap6, by go_num, rfl, HS.out.step hlt Hdr.out Hx.out H1.out H2.out H3.out HBQ.out HB6.out Hr6.out Hc6.out⟩
            case measure => simp [intOf]; omega
        | some l =>
          subst hle
          obtain ⟨hk0, hokl, hne⟩ := HS.out.k1 l rfl
          obtain ⟨A, ⟨fr, arcs⟩, ho⟩ : ∃ A q, out = A ++ [q] := by
            rcases List.eq_nil_or_concat out with h | ⟨A, q, h⟩
            · exact absurd h hne
            · exact ⟨A, q, by rw [h, List.concat_eq_append]⟩
          have hrdo := HS.out.rd
          rw [ho] at hrdo
          obtain ⟨bo, oo, ap, cp, rfl, hbo, hq0, hq1, hqf, hqc, hqm, hqa⟩ := hrdo.row A.length (by simp)
          simp only [List.getElem_concat_length] at hq0 hq1 hqf hqc hqa
          obtain ⟨q1, q2, q3⟩ := HS.out.rows A (fr, arcs) ho
          simp only at q1 q2 q3
          have hon : out.length = A.length + 1 := by rw [ho]; simp
          have hhas : hasR out (x0, x1, x2) = if fr = x0 then sumA arcs else 0 := by rw [ho, hasR_of]
          have hSum := fun (W' : World) (hB : Below wr.heap.size wr W') => rsum_any arcs ap cp _ W' (by omega) (hqa.ext hB)
          have HSum := Lib.hid hSum
          obtain ⟨l0', l1', l2'⟩ := l
          have l0 := HS.out.c0
          have l1 := HS.out.c1
          have l2 := HS.out.c2
          simp only [lastV, Option.getD_some] at l0 l1 l2
          have hBl := rbelow_any (x0, x1, x2) (l0', l1', l2')
          simp only [edgeV] at hBl
          have hlen := HS.out.len
          clear ho hrdo hne hqa hSum hqf
          generalize A.length = n at hq0 hq1 hon
          have hko : decide ((0 : Int) < (k : Int)) = true := decide_eq_true (by omega)
          have hko2 : decide (0 < k) = true := decide_eq_true (by omega)
          have hol : decide ((0 : Int) < (n : Int) + 1) = true := decide_eq_true (by omega)
          have hoi : (n : Int) < (n : Int) + 1 := by omega
          have hoi2 : (0 : Int) ≤ (n : Int) := by omega
          by_cases h2 : isBelow (some (l0', l1', l2')) (x0, x1, x2) = true
          · have Hbad := Lib.hid (show rrows recs = ([], 13) by have h := Hg.out; rw [if_pos h2] at h; exact h)
            have h2' : belowE (x0, x1, x2) (l0', l1', l2') = true := h2
            rw [h2'] at hBl
            have HBl := Lib.hid hBl
            clear hBl h2 h2' hhas
            go_wp2_with (first
  | (go_at_call 17; refine HOf.out.mono ?_; rintro e W2 ⟨rfl, hB2⟩; have hs2 := hB2.size; have l0 := ((bcell hB2).1 (w.heap.size + 1) 0 hLw).trans l0; have l1 := ((bcell hB2).1 (w.heap.size + 1) 1 hLw).trans l1; have l2 := ((bcell hB2).1 (w.heap.size + 1) 2 hLw).trans l2; have HB2 := Lib.hid hB2; clear hB2)
  | (go_at_call 19; refine (HBl.out _).mono ?_; rintro e W3 ⟨rfl, hB4⟩; have e0 := ((bcell hB4).1 W2.heap.size 0 (by simp)).trans (show _ = some (Value.int .u32 (x0 : Nat)) by simp [go_sem, ↓IntWalk.iteOmega]); have e1 := ((bcell hB4).1 W2.heap.size 1 (by simp)).trans (show _ = some (Value.int .u32 (x1 : Nat)) by simp [go_sem, ↓IntWalk.iteOmega]); have e2 := ((bcell hB4).1 W2.heap.size 2 (by simp)).trans (show _ = some (Value.int .u32 (x2 : Nat)) by simp [go_sem, ↓IntWalk.iteOmega]); have HB3 := Lib.hid ((HB2.out.trans ((ext_alloc W2 _).mono hs2)).trans (hB4.mono (by simp; omega))); have hs3 : W2.heap.size + 1 ≤ W3.heap.size := (by have := hB4.size; simpa using this); clear hB4))
            go_ret2
            exact RowsRet.none Hbad.out ((HS.out.below.trans (HB3.out.mono HS.out.below.size)).alloc (by have := HB3.out.size; have := HS.out.below.size; omega) _) (by simp [maxLen])
          · have h2 : isBelow (some (l0', l1', l2')) (x0, x1, x2) = false := by simpa using h2
            have h2' : belowE (x0, x1, x2) (l0', l1', l2') = false := h2
            rw [h2'] at hBl
            have HBl := Lib.hid hBl
            clear hBl h2'
            by_cases hf : fr = x0
            · rw [if_pos hf] at hhas
              have hq : ((fr : Int) == (x0 : Int)) = true := by simp [hf]
              by_cases h3 : 2147483647 < hasR out (x0, x1, x2) + x2
              · have hd3 : decide ((2147483647 : Int) < (sumA arcs : Int) + (x2 : Int)) = true := decide_eq_true (by omega)
                clear hf
                rw [hon]
                go_wp2_with (first
  | (go_at_call 17; refine HOf.out.mono ?_; rintro e W2 ⟨rfl, hB2⟩; have hs2 := hB2.size; have l0 := ((bcell hB2).1 (w.heap.size + 1) 0 hLw).trans l0; have l1 := ((bcell hB2).1 (w.heap.size + 1) 1 hLw).trans l1; have l2 := ((bcell hB2).1 (w.heap.size + 1) 2 hLw).trans l2; have HB2 := Lib.hid hB2; clear hB2)
  | (go_at_call 19; refine (HBl.out _).mono ?_; rintro e W3 ⟨rfl, hB4⟩; have e0 := ((bcell hB4).1 W2.heap.size 0 (by simp)).trans (show _ = some (Value.int .u32 (x0 : Nat)) by simp [go_sem, ↓IntWalk.iteOmega]); have e1 := ((bcell hB4).1 W2.heap.size 1 (by simp)).trans (show _ = some (Value.int .u32 (x1 : Nat)) by simp [go_sem, ↓IntWalk.iteOmega]); have e2 := ((bcell hB4).1 W2.heap.size 2 (by simp)).trans (show _ = some (Value.int .u32 (x2 : Nat)) by simp [go_sem, ↓IntWalk.iteOmega]); have HB3 := Lib.hid ((HB2.out.trans ((ext_alloc W2 _).mono hs2)).trans (hB4.mono (by simp; omega))); have hs3 : W2.heap.size + 1 ≤ W3.heap.size := (by have := hB4.size; simpa using this); clear hB4))
                have r0c := ((bcell HB3.out).1 bo (oo + n * 2) hbo).trans hq0
                have r1c := ((bcell HB3.out).1 bo (oo + n * 2 + 1) hbo).trans hq1
                go_quiet (fail)
                obtain ⟨WQ, hWQ⟩ : ∃ WQ, (W3).drewN nq = WQ := ⟨_, rfl⟩
                have e0 : WQ.cell? ⟨W2.heap.size, 0, none⟩ = some (.int .u32 (x0 : Nat)) := by rw [← hWQ]; simpa [go_sem] using e0
                have e1 : WQ.cell? ⟨W2.heap.size, 1, none⟩ = some (.int .u32 (x1 : Nat)) := by rw [← hWQ]; simpa [go_sem] using e1
                have e2 : WQ.cell? ⟨W2.heap.size, 2, none⟩ = some (.int .u32 (x2 : Nat)) := by rw [← hWQ]; simpa [go_sem] using e2
                have hBQ : Below wr.heap.size wr WQ := by rw [← hWQ]; exact below_drewN HB3.out _
                have hsQ : W2.heap.size + 1 ≤ WQ.heap.size := by rw [← hWQ]; simpa using hs3
                rw [hWQ]
                have HBQ := Lib.hid hBQ
                clear hWQ hBQ
                have r0c := ((bcell HBQ.out).1 bo (oo + n * 2) hbo).trans hq0
                have r1c := ((bcell HBQ.out).1 bo (oo + n * 2 + 1) hbo).trans hq1
                have Hbad := Lib.hid (show rrows recs = ([], 10) by have h := Hg.out; rw [h2, if_neg (by simp), if_pos h3] at h; exact h)
                clear h3 h2
                go_wp2_with ((go_at_call 41; refine (HSum.out _ HBQ.out).mono ?_; rintro e W5 ⟨rfl, hB5⟩; have e0 := ((bcell hB5).1 W2.heap.size 0 hsQ).trans e0; have e1 := ((bcell hB5).1 W2.heap.size 1 hsQ).trans e1; have e2 := ((bcell hB5).1 W2.heap.size 2 hsQ).trans e2; have HBQ := Lib.hid (HBQ.out.trans (hB5.mono HBQ.out.size)); have hsQ := Nat.le_trans hsQ hB5.size; clear hB5))
                go_ret2
                exact RowsRet.none Hbad.out ((HS.out.below.trans (HBQ.out.mono HS.out.below.size)).alloc (by have := HBQ.out.size; have := HS.out.below.size; omega) _) (by simp [maxLen])
              · have hd3 : decide ((2147483647 : Int) < (sumA arcs : Int) + (x2 : Int)) = false := decide_eq_false (by omega)
                have HWith := Lib.hid (fun (W' : World) (hB : Below wr.heap.size wr W') => with_any out (x0, x1, x2) _ cap' W' (by have := HS.out.len; omega) Hok.out _ (fun b (hb : w.heap.size ≤ b ∧ b ≠ w.heap.size + 1 ∧ b < wr.heap.size) => Nat.lt_of_lt_of_le hb.2.2 hB.size) (HS.out.rd.ext hB) HS.out.capLe.1 (fun A q h => by
                  obtain ⟨q1, q2, q3⟩ := HS.out.rows A q h
                  refine ⟨q1, by omega, fun hq => ?_⟩
                  have h4 := h3
                  rw [h, hasR_of, if_pos hq] at h4
                  have h4 : ¬ 2147483647 < sumA q.2 + x2 := h4
                  show sumA q.2 + x2 ≤ 2147483647
                  omega))
                simp only [edgeV] at HWith
                have H3 := Lib.hid h3
                have H2 := Lib.hid h2
                clear h3 h2
                clear hf
                rw [hon] at HWith ⊢
                go_wp2_with (first
  | (go_at_call 17; refine HOf.out.mono ?_; rintro e W2 ⟨rfl, hB2⟩; have hs2 := hB2.size; have l0 := ((bcell hB2).1 (w.heap.size + 1) 0 hLw).trans l0; have l1 := ((bcell hB2).1 (w.heap.size + 1) 1 hLw).trans l1; have l2 := ((bcell hB2).1 (w.heap.size + 1) 2 hLw).trans l2; have HB2 := Lib.hid hB2; clear hB2)
  | (go_at_call 19; refine (HBl.out _).mono ?_; rintro e W3 ⟨rfl, hB4⟩; have e0 := ((bcell hB4).1 W2.heap.size 0 (by simp)).trans (show _ = some (Value.int .u32 (x0 : Nat)) by simp [go_sem, ↓IntWalk.iteOmega]); have e1 := ((bcell hB4).1 W2.heap.size 1 (by simp)).trans (show _ = some (Value.int .u32 (x1 : Nat)) by simp [go_sem, ↓IntWalk.iteOmega]); have e2 := ((bcell hB4).1 W2.heap.size 2 (by simp)).trans (show _ = some (Value.int .u32 (x2 : Nat)) by simp [go_sem, ↓IntWalk.iteOmega]); have HB3 := Lib.hid ((HB2.out.trans ((ext_alloc W2 _).mono hs2)).trans (hB4.mono (by simp; omega))); have hs3 : W2.heap.size + 1 ≤ W3.heap.size := (by have := hB4.size; simpa using this); clear hB4))
                have r0c := ((bcell HB3.out).1 bo (oo + n * 2) hbo).trans hq0
                have r1c := ((bcell HB3.out).1 bo (oo + n * 2 + 1) hbo).trans hq1
                go_quiet (fail)
                obtain ⟨WQ, hWQ⟩ : ∃ WQ, (W3).drewN nq = WQ := ⟨_, rfl⟩
                have e0 : WQ.cell? ⟨W2.heap.size, 0, none⟩ = some (.int .u32 (x0 : Nat)) := by rw [← hWQ]; simpa [go_sem] using e0
                have e1 : WQ.cell? ⟨W2.heap.size, 1, none⟩ = some (.int .u32 (x1 : Nat)) := by rw [← hWQ]; simpa [go_sem] using e1
                have e2 : WQ.cell? ⟨W2.heap.size, 2, none⟩ = some (.int .u32 (x2 : Nat)) := by rw [← hWQ]; simpa [go_sem] using e2
                have hBQ : Below wr.heap.size wr WQ := by rw [← hWQ]; exact below_drewN HB3.out _
                have hsQ : W2.heap.size + 1 ≤ WQ.heap.size := by rw [← hWQ]; simpa using hs3
                rw [hWQ]
                have HBQ := Lib.hid hBQ
                clear hWQ hBQ
                have r0c := ((bcell HBQ.out).1 bo (oo + n * 2) hbo).trans hq0
                have r1c := ((bcell HBQ.out).1 bo (oo + n * 2 + 1) hbo).trans hq1
                go_wp2_with (first
                  | (go_at_call 41; refine (HSum.out _ HBQ.out).mono ?_; rintro e W5 ⟨rfl, hB5⟩; have e0 := ((bcell hB5).1 W2.heap.size 0 hsQ).trans e0; have e1 := ((bcell hB5).1 W2.heap.size 1 hsQ).trans e1; have e2 := ((bcell hB5).1 W2.heap.size 2 hsQ).trans e2; have HBQ := Lib.hid (HBQ.out.trans (hB5.mono HBQ.out.size)); have hsQ := Nat.le_trans hsQ hB5.size; clear hB5)
                  | (go_at_call 42; refine (HWith.out _ HBQ.out).mono ?_; rintro e W6 ⟨ao6, cap6, rfl, hc6, hm6, hr6, hB6⟩; have g0 := ((bcell (HBQ.out.trans (hB6.mono HBQ.out.size))).1 (w.heap.size + 1) 0 hLw).trans HS.out.c0; have g1 := ((bcell (HBQ.out.trans (hB6.mono HBQ.out.size))).1 (w.heap.size + 1) 1 hLw).trans HS.out.c1; have g2 := ((bcell (HBQ.out.trans (hB6.mono HBQ.out.size))).1 (w.heap.size + 1) 2 hLw).trans HS.out.c2; have k0 := ((bcell (HBQ.out.trans (hB6.mono HBQ.out.size))).2 (w.heap.size + 1) 0 hLw).trans (HS.out.f0 0); have k1 := ((bcell (HBQ.out.trans (hB6.mono HBQ.out.size))).2 (w.heap.size + 1) 1 hLw).trans (HS.out.f0 1); have k2 := ((bcell (HBQ.out.trans (hB6.mono HBQ.out.size))).2 (w.heap.size + 1) 2 hLw).trans (HS.out.f0 2); have j0 := ((bcell hB6).1 W2.heap.size 0 hsQ).trans e0; have j1 := ((bcell hB6).1 W2.heap.size 1 hsQ).trans e1; have j2 := ((bcell hB6).1 W2.heap.size 2 hsQ).trans e2; have Hc6 := Lib.hid (And.intro hc6 hm6); have Hr6 := Lib.hid hr6; have HB6 := Lib.hid hB6; clear hc6 hm6 hr6 hB6))
                go_roundw
                case rel => exact ⟨k + 1, _, _, ao6, cap6, by go_num, rfl, HS.out.step hlt Hdr.out Hx.out H1.out H2.out H3.out HBQ.out HB6.out Hr6.out Hc6.out⟩
                case measure => simp [intOf]; omega
            · rw [if_neg hf] at hhas
              have hq : ((fr : Int) == (x0 : Int)) = false := by simp; omega
              by_cases h3 : 2147483647 < hasR out (x0, x1, x2) + x2
              · have hd3 : decide ((2147483647 : Int) < (x2 : Int)) = true := decide_eq_true (by omega)
                clear hf
                rw [hon]
                go_wp2_with (first
  | (go_at_call 17; refine HOf.out.mono ?_; rintro e W2 ⟨rfl, hB2⟩; have hs2 := hB2.size; have l0 := ((bcell hB2).1 (w.heap.size + 1) 0 hLw).trans l0; have l1 := ((bcell hB2).1 (w.heap.size + 1) 1 hLw).trans l1; have l2 := ((bcell hB2).1 (w.heap.size + 1) 2 hLw).trans l2; have HB2 := Lib.hid hB2; clear hB2)
  | (go_at_call 19; refine (HBl.out _).mono ?_; rintro e W3 ⟨rfl, hB4⟩; have e0 := ((bcell hB4).1 W2.heap.size 0 (by simp)).trans (show _ = some (Value.int .u32 (x0 : Nat)) by simp [go_sem, ↓IntWalk.iteOmega]); have e1 := ((bcell hB4).1 W2.heap.size 1 (by simp)).trans (show _ = some (Value.int .u32 (x1 : Nat)) by simp [go_sem, ↓IntWalk.iteOmega]); have e2 := ((bcell hB4).1 W2.heap.size 2 (by simp)).trans (show _ = some (Value.int .u32 (x2 : Nat)) by simp [go_sem, ↓IntWalk.iteOmega]); have HB3 := Lib.hid ((HB2.out.trans ((ext_alloc W2 _).mono hs2)).trans (hB4.mono (by simp; omega))); have hs3 : W2.heap.size + 1 ≤ W3.heap.size := (by have := hB4.size; simpa using this); clear hB4))
                have r0c := ((bcell HB3.out).1 bo (oo + n * 2) hbo).trans hq0
                have r1c := ((bcell HB3.out).1 bo (oo + n * 2 + 1) hbo).trans hq1
                go_quiet (fail)
                obtain ⟨WQ, hWQ⟩ : ∃ WQ, (W3).drewN nq = WQ := ⟨_, rfl⟩
                have e0 : WQ.cell? ⟨W2.heap.size, 0, none⟩ = some (.int .u32 (x0 : Nat)) := by rw [← hWQ]; simpa [go_sem] using e0
                have e1 : WQ.cell? ⟨W2.heap.size, 1, none⟩ = some (.int .u32 (x1 : Nat)) := by rw [← hWQ]; simpa [go_sem] using e1
                have e2 : WQ.cell? ⟨W2.heap.size, 2, none⟩ = some (.int .u32 (x2 : Nat)) := by rw [← hWQ]; simpa [go_sem] using e2
                have hBQ : Below wr.heap.size wr WQ := by rw [← hWQ]; exact below_drewN HB3.out _
                have hsQ : W2.heap.size + 1 ≤ WQ.heap.size := by rw [← hWQ]; simpa using hs3
                rw [hWQ]
                have HBQ := Lib.hid hBQ
                clear hWQ hBQ
                have Hbad := Lib.hid (show rrows recs = ([], 10) by have h := Hg.out; rw [h2, if_neg (by simp), if_pos h3] at h; exact h)
                clear h3 h2
                go_wp2_with (fail)
                go_ret2
                exact RowsRet.none Hbad.out ((HS.out.below.trans (HBQ.out.mono HS.out.below.size)).alloc (by have := HBQ.out.size; have := HS.out.below.size; omega) _) (by simp [maxLen])
              · have hd3 : decide ((2147483647 : Int) < (x2 : Int)) = false := decide_eq_false (by omega)
                have HWith := Lib.hid (fun (W' : World) (hB : Below wr.heap.size wr W') => with_any out (x0, x1, x2) _ cap' W' (by have := HS.out.len; omega) Hok.out _ (fun b (hb : w.heap.size ≤ b ∧ b ≠ w.heap.size + 1 ∧ b < wr.heap.size) => Nat.lt_of_lt_of_le hb.2.2 hB.size) (HS.out.rd.ext hB) HS.out.capLe.1 (fun A q h => by
                  obtain ⟨q1, q2, q3⟩ := HS.out.rows A q h
                  refine ⟨q1, by omega, fun hq => ?_⟩
                  have h4 := h3
                  rw [h, hasR_of, if_pos hq] at h4
                  have h4 : ¬ 2147483647 < sumA q.2 + x2 := h4
                  show sumA q.2 + x2 ≤ 2147483647
                  omega))
                simp only [edgeV] at HWith
                have H3 := Lib.hid h3
                have H2 := Lib.hid h2
                clear h3 h2
                clear hf
                rw [hon] at HWith ⊢
                go_wp2_with (first
  | (go_at_call 17; refine HOf.out.mono ?_; rintro e W2 ⟨rfl, hB2⟩; have hs2 := hB2.size; have l0 := ((bcell hB2).1 (w.heap.size + 1) 0 hLw).trans l0; have l1 := ((bcell hB2).1 (w.heap.size + 1) 1 hLw).trans l1; have l2 := ((bcell hB2).1 (w.heap.size + 1) 2 hLw).trans l2; have HB2 := Lib.hid hB2; clear hB2)
  | (go_at_call 19; refine (HBl.out _).mono ?_; rintro e W3 ⟨rfl, hB4⟩; have e0 := ((bcell hB4).1 W2.heap.size 0 (by simp)).trans (show _ = some (Value.int .u32 (x0 : Nat)) by simp [go_sem, ↓IntWalk.iteOmega]); have e1 := ((bcell hB4).1 W2.heap.size 1 (by simp)).trans (show _ = some (Value.int .u32 (x1 : Nat)) by simp [go_sem, ↓IntWalk.iteOmega]); have e2 := ((bcell hB4).1 W2.heap.size 2 (by simp)).trans (show _ = some (Value.int .u32 (x2 : Nat)) by simp [go_sem, ↓IntWalk.iteOmega]); have HB3 := Lib.hid ((HB2.out.trans ((ext_alloc W2 _).mono hs2)).trans (hB4.mono (by simp; omega))); have hs3 : W2.heap.size + 1 ≤ W3.heap.size := (by have := hB4.size; simpa using this); clear hB4))
                have r0c := ((bcell HB3.out).1 bo (oo + n * 2) hbo).trans hq0
                have r1c := ((bcell HB3.out).1 bo (oo + n * 2 + 1) hbo).trans hq1
                go_quiet (fail)
                obtain ⟨WQ, hWQ⟩ : ∃ WQ, (W3).drewN nq = WQ := ⟨_, rfl⟩
                have e0 : WQ.cell? ⟨W2.heap.size, 0, none⟩ = some (.int .u32 (x0 : Nat)) := by rw [← hWQ]; simpa [go_sem] using e0
                have e1 : WQ.cell? ⟨W2.heap.size, 1, none⟩ = some (.int .u32 (x1 : Nat)) := by rw [← hWQ]; simpa [go_sem] using e1
                have e2 : WQ.cell? ⟨W2.heap.size, 2, none⟩ = some (.int .u32 (x2 : Nat)) := by rw [← hWQ]; simpa [go_sem] using e2
                have hBQ : Below wr.heap.size wr WQ := by rw [← hWQ]; exact below_drewN HB3.out _
                have hsQ : W2.heap.size + 1 ≤ WQ.heap.size := by rw [← hWQ]; simpa using hs3
                rw [hWQ]
                have HBQ := Lib.hid hBQ
                clear hWQ hBQ
                go_wp2_with (first
                  | fail
                  | (go_at_call 42; refine (HWith.out _ HBQ.out).mono ?_; rintro e W6 ⟨ao6, cap6, rfl, hc6, hm6, hr6, hB6⟩; have g0 := ((bcell (HBQ.out.trans (hB6.mono HBQ.out.size))).1 (w.heap.size + 1) 0 hLw).trans HS.out.c0; have g1 := ((bcell (HBQ.out.trans (hB6.mono HBQ.out.size))).1 (w.heap.size + 1) 1 hLw).trans HS.out.c1; have g2 := ((bcell (HBQ.out.trans (hB6.mono HBQ.out.size))).1 (w.heap.size + 1) 2 hLw).trans HS.out.c2; have k0 := ((bcell (HBQ.out.trans (hB6.mono HBQ.out.size))).2 (w.heap.size + 1) 0 hLw).trans (HS.out.f0 0); have k1 := ((bcell (HBQ.out.trans (hB6.mono HBQ.out.size))).2 (w.heap.size + 1) 1 hLw).trans (HS.out.f0 1); have k2 := ((bcell (HBQ.out.trans (hB6.mono HBQ.out.size))).2 (w.heap.size + 1) 2 hLw).trans (HS.out.f0 2); have j0 := ((bcell hB6).1 W2.heap.size 0 hsQ).trans e0; have j1 := ((bcell hB6).1 W2.heap.size 1 hsQ).trans e1; have j2 := ((bcell hB6).1 W2.heap.size 2 hsQ).trans e2; have Hc6 := Lib.hid (And.intro hc6 hm6); have Hr6 := Lib.hid hr6; have HB6 := Lib.hid hB6; clear hc6 hm6 hr6 hB6))
                go_roundw
                case rel => exact ⟨k + 1, _, _, ao6, cap6, by go_num, rfl, HS.out.step hlt Hdr.out Hx.out H1.out H2.out H3.out HBQ.out HB6.out Hr6.out Hc6.out⟩
                case measure => simp [intOf]; omega
    · obtain rfl : k = recs.length := by omega
      have hp := HS.out.go
      rw [List.drop_length] at hp
      have hp2 : rrows recs = (out, 0) := by rw [hp]; rfl
      have Hp := Lib.hid hp2
      have Hl2 := Lib.hid HS.out.capLe
      clear hp hp2
      go_wp2_with fail
      go_ret2
      show RowsRet (rrows recs) w (.returned (.tuple #[.slice ao' out.length cap', .int .i64 0])) wr
      rw [Hp.out]
      exact ⟨ao', cap', rfl, Hl2.out.1, Hl2.out.2, HS.out.rd.mono (fun b hb _ => hb.1), HS.out.below⟩
end Go.Proofs.Ytafbjkbdfdeacaa
