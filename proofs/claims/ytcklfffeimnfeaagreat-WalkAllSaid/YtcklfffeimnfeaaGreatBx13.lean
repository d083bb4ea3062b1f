/- Texts merged into one: MergeRef2, MergeSameW, MergeSort, GraphRef, MergeCanon. -/
import Derived.Test.YtcklfffeimnfeaaGreatBx12
set_option maxRecDepth 100000
set_option maxHeartbeats 12800000
set_option linter.unusedSimpArgs false
set_option linter.unusedVariables false
namespace Go.Proofs.YtcklfffeimnfeaaGreat
open Go.RowKit

def hasR (out : List RowD) (x : EdgeD) : Nat := match out.getLast? with
  | some r => if r.1 = x.1 then sumA r.2 else 0
  | none => 0
def isBelow (lastE : Option EdgeD) (x : EdgeD) : Bool := match lastE with
  | some l => belowE x l
  | none => false
/-- as the reference goes through the keys -/
def rrowsGo (out : List RowD) (lastE : Option EdgeD) : List (List UInt8) → List RowD × Nat
  | [] => (out, 0)
  | k :: ks =>
    if k.length ≠ 12 ∨ (keyE k).2.2 = 0 then ([], 3) else
    if isBelow lastE (keyE k) = true then ([], 13) else
    if 2147483647 < hasR out (keyE k) + (keyE k).2.2 then ([], 10) else rrowsGo (withR out (keyE k)) (some (keyE k)) ks
def flushR (row : RowD) : List RowD := if 0 < row.2.length then [row] else []
theorem flushR_pos {row : RowD} (h : 0 < row.2.length) : flushR row = [row] := if_pos h
theorem takeM_pos (row : RowD) (x : EdgeD) : 0 < (mtakeM row x).2.length := (takeM_len row x).2
theorem keyE_key {k : List UInt8} (h : k.length = 12) : key3 (keyE k).1 (keyE k).2.1 (keyE k).2.2 = k := by
  unfold keyE
  rw [if_pos h]
  exact (key3_keyOf k h).1
theorem belowE_keys {k l : List UInt8} (hk : k.length = 12) (hl : l.length = 12) : belowE (keyE k) (keyE l) = decide (Lib.compareBytes k l < 0) := by
  rw [Bool.eq_iff_iff, belowE_key _ _ (keyE_ok k) (keyE_ok l), keyE_key hk, keyE_key hl, decide_eq_true_eq, cmp_lt]
theorem withR_step (done : List RowD) (row : RowD) (x : EdgeD) (h : 0 < row.2.length ∨ done = []) : withR (done ++ flushR row) x = done ++ (if fullB row x = true then [row] else []) ++ flushR (mtakeM row x) := by
  rw [flushR_pos (takeM_pos row x)]
  by_cases h0 : 0 < row.2.length
  · rw [flushR_pos h0]
    unfold withR
    rw [List.getLast?_concat]
    simp only [List.dropLast_concat]
    by_cases h1 : row.1 = x.1
    · have hf : fullB row x = false := by simp [fullB, h1]
      have ht : mtakeM row x = (row.1, addArc row.2 x) := if_pos ⟨h0, h1⟩
      rw [if_pos h1, hf, ht, h1]
      simp
    · have hf : fullB row x = true := by simp [fullB, h0, h1]
      have ht : mtakeM row x = (x.1, [(x.2.1, x.2.2)]) := if_neg (fun h => h1 h.2)
      rw [if_neg h1, hf, ht]
      simp
  · obtain rfl : done = [] := h.resolve_left h0
    have hf : fullB row x = false := by simp [fullB, h0]
    have ht : mtakeM row x = (x.1, [(x.2.1, x.2.2)]) := if_neg (fun h => h0 h.1)
    have hfl : flushR row = [] := if_neg h0
    rw [hf, ht, hfl]
    simp [withR]
theorem hasR_left (done : List RowD) (row : RowD) (x : EdgeD) (h : 0 < row.2.length ∨ done = []) (hs : sumA row.2 ≤ 2147483647) : (2147483647 < hasR (done ++ flushR row) x + x.2.2) ↔ leftOf row x < x.2.2 := by
  unfold leftOf hasR
  by_cases h0 : 0 < row.2.length
  · rw [flushR_pos h0, List.getLast?_concat]
    simp only
    by_cases h1 : row.1 = x.1
    · rw [if_pos h1, if_pos ⟨h0, h1⟩]; omega
    · rw [if_neg h1, if_neg (fun h => h1 h.2)]; omega
  · obtain rfl : done = [] := h.resolve_left h0
    have hfl : flushR row = [] := if_neg h0
    rw [hfl, if_neg (fun h => h0 h.1)]
    simp
theorem rrowsGo_told : ∀ (ks : List (List UInt8)) (done : List RowD) (row : RowD) (lastE : Option EdgeD) (last : List UInt8), okRow row →
    ((lastE = none ∧ last = [] ∧ done = [] ∧ row.2.length = 0) ∨ (last.length = 12 ∧ lastE = some (keyE last) ∧ 0 < row.2.length)) →
    rrowsGo (done ++ flushR row) lastE ks = if (mtold row last ks).2 = 0 then (done ++ (mtold row last ks).1, 0) else ([], (mtold row last ks).2)
  | [], done, row, lastE, last, hok, h => by
    unfold rrowsGo mtold
    rw [if_pos rfl]
    rfl
  | k :: ks, done, row, lastE, last, hok, h => by
    have hd : 0 < row.2.length ∨ done = [] := by rcases h with ⟨_, _, h, _⟩ | ⟨_, _, h⟩; exact .inr h; exact .inl h
    unfold rrowsGo mtold
    by_cases h1 : k.length ≠ 12 ∨ (keyE k).2.2 = 0
    · have he : mayErr row last k = 3 := if_pos h1
      rw [if_pos h1, he]
      simp
    · rw [if_neg h1]
      have hk12 : k.length = 12 := by omega
      have hb : isBelow lastE (keyE k) = decide (Lib.compareBytes k last < 0) := by
        rcases h with ⟨rfl, rfl, _, _⟩ | ⟨hl, rfl, _⟩
        · show false = _
          cases k <;> simp [Lib.compareBytes]
        · exact belowE_keys hk12 hl
      by_cases h2 : Lib.compareBytes k last < 0
      · have he : mayErr row last k = 13 := by unfold mayErr; rw [if_neg h1, if_pos h2]
        rw [hb, if_pos (by simpa using h2), he]
        simp
      · rw [hb, if_neg (by simpa using h2)]
        have hl := hasR_left done row (keyE k) hd hok.2.2
        by_cases h3 : leftOf row (keyE k) < (keyE k).2.2
        · have he : mayErr row last k = 10 := by unfold mayErr; rw [if_neg h1, if_neg h2, if_pos h3]
          rw [if_pos (hl.2 h3), he]
          simp
        · have he : mayErr row last k = 0 := by unfold mayErr; rw [if_neg h1, if_neg h2, if_neg h3]
          rw [if_neg (fun h => h3 (hl.1 h)), he, withR_step done row (keyE k) hd]
          rw [rrowsGo_told ks (done ++ if fullB row (keyE k) = true then [row] else []) (mtakeM row (keyE k)) (some (keyE k)) k (takeM_ok hok (keyE_ok k) (may_ok he).2.2.2) (.inr ⟨hk12, rfl, takeM_pos row (keyE k)⟩)]
          simp only [ne_eq, not_true_eq_false, if_false, List.append_assoc]
def rrows (ks : List (List UInt8)) : List RowD × Nat := rrowsGo [] none ks
theorem rrows_rows (ks : List (List UInt8)) : rrows ks = rowsOf ks := by
  have h := rrowsGo_told ks [] (0, []) none [] ⟨by simp, by simp, by simp [sumA]⟩ (.inl ⟨rfl, rfl, rfl, rfl⟩)
  unfold rrows rowsOf
  simpa [flushR] using h
theorem rof_any (l : List UInt8) (ao : Option Addr) (cap : Nat) (w : World) (hcap : l.length ≤ cap) (hrd : Rd w ao l.length (byteVals l)) :
    Calls Tryz.prog 58 #[.slice ao l.length cap] w fun e w' => e = .returned (.tuple #[edgeV (keyE l), .bool (decide (l.length = 12))]) ∧ Below w.heap.size w w' := by
  unfold keyE
  by_cases h : l.length = 12
  · rw [if_pos h, decide_eq_true h]
    exact rof_yes l ao cap w h hcap hrd
  · rw [if_neg h, decide_eq_false h]
    exact rof_no l.length cap ao w h
def lastV (lastE : Option EdgeD) : EdgeD := lastE.getD (0, 0, 0)
structure RrS (recs : List (List UInt8)) (w : World) (k : Nat) (out : List RowD) (lastE : Option EdgeD) (ao : Option Addr) (cap : Nat) (wr : World) : Prop where
  hk : k ≤ recs.length
  go : rrows recs = rrowsGo out lastE (recs.drop k)
  k0 : lastE = none → k = 0 ∧ out = []
  k1 : ∀ l, lastE = some l → 0 < k ∧ okE l ∧ out ≠ []
  len : out.length ≤ k
  rows : ∀ A r, out = A ++ [r] → 0 < r.2.length ∧ r.2.length ≤ k ∧ sumA r.2 ≤ 2147483647
  c0 : wr.cell? ⟨w.heap.size + 1, 0, none⟩ = some (.int .u32 ((lastV lastE).1 : Nat))
  c1 : wr.cell? ⟨w.heap.size + 1, 1, none⟩ = some (.int .u32 ((lastV lastE).2.1 : Nat))
  c2 : wr.cell? ⟨w.heap.size + 1, 2, none⟩ = some (.int .u32 ((lastV lastE).2.2 : Nat))
  f0 : ∀ j, wr.frozen? ⟨w.heap.size + 1, j, none⟩ = false
  rd : RdS rowRep (fun b => w.heap.size ≤ b ∧ b ≠ w.heap.size + 1 ∧ b < wr.heap.size) wr ao out
  capLe : out.length ≤ cap ∧ cap ≤ maxLen
  below : Below w.heap.size w wr
  sz : w.heap.size + 2 ≤ wr.heap.size
def rrI (recs : List (List UInt8)) (w : World) (o i : Value) (wr : World) : Prop :=
  ∃ k out lastE ao cap, i = .int .i64 (k : Nat) ∧ o = .slice ao out.length cap ∧ RrS recs w k out lastE ao cap wr
theorem withR_last (out : List RowD) (x : EdgeD) : ∃ A r, withR out x = A ++ [r] ∧ (withR out x).length ≤ out.length + 1 ∧
    ((∃ A' r', out = A' ++ [r'] ∧ r'.1 = x.1 ∧ r = (x.1, addArc r'.2 x)) ∨ r = (x.1, [(x.2.1, x.2.2)])) := by
  rcases List.eq_nil_or_concat out with rfl | ⟨A, r, h⟩
  · exact ⟨[], _, rfl, by simp [withR], .inr rfl⟩
  · rw [List.concat_eq_append] at h
    subst h
    unfold withR
    rw [List.getLast?_concat]
    simp only [List.dropLast_concat]
    by_cases h1 : r.1 = x.1
    · rw [if_pos h1]
      exact ⟨A, _, rfl, by simp, .inl ⟨A, r, rfl, h1, rfl⟩⟩
    · rw [if_neg h1]
      exact ⟨A ++ [r], _, rfl, by simp, .inr rfl⟩
theorem snoc_inj {α : Type} {A B : List α} {a b : α} (h : A ++ [a] = B ++ [b]) : A = B ∧ a = b := by
  have := List.append_inj' h rfl
  exact ⟨this.1, by simpa using this.2⟩
theorem hasR_of {A : List RowD} {r : RowD} {x : EdgeD} : hasR (A ++ [r]) x = if r.1 = x.1 then sumA r.2 else 0 := by
  unfold hasR
  rw [List.getLast?_concat]
/-- a round that goes on -/
theorem RrS.step {recs : List (List UInt8)} {w : World} {k : Nat} {out : List RowD} {lastE : Option EdgeD} {ao : Option Addr} {cap : Nat} {wr : World} (h : RrS recs w k out lastE ao cap wr) (hk : k < recs.length) {r : List UInt8} {x : EdgeD} (hr : recs.drop k = r :: recs.drop (k + 1)) (hx : keyE r = x) (h1 : ¬ (r.length ≠ 12 ∨ x.2.2 = 0)) (h2 : isBelow lastE x = false)
    (h3 : ¬ 2147483647 < hasR out x + x.2.2) {W5 W6 : World} {ao6 : Option Addr} {cap6 : Nat} (hB5 : Below wr.heap.size wr W5) (hB6 : Below W5.heap.size W5 W6) (hrd : RdS rowRep (fun b => (w.heap.size ≤ b ∧ b ≠ w.heap.size + 1 ∧ b < wr.heap.size) ∨ W5.heap.size ≤ b) W6 ao6 (withR out x)) (hc : (withR out x).length ≤ cap6 ∧ cap6 ≤ maxLen) :
    RrS recs w (k + 1) (withR out x) (some x) ao6 cap6 (((W6.setCell ⟨w.heap.size + 1, 0, none⟩ (.int .u32 (x.1 : Nat))).setCell ⟨w.heap.size + 1, 1, none⟩ (.int .u32 (x.2.1 : Nat))).setCell ⟨w.heap.size + 1, 2, none⟩ (.int .u32 (x.2.2 : Nat))) := by
  have hokx : okE x := hx ▸ keyE_ok r
  obtain ⟨A, q, hw, hwl, hq⟩ := withR_last out x
  have hB := hB5.trans (hB6.mono hB5.size)
  have hs := hB.size
  have hsz := h.sz
  have cc := fun j => (bcell hB).1 (w.heap.size + 1) j (by omega)
  have ff := fun j => (bcell hB).2 (w.heap.size + 1) j (by omega)
  have c0 := (cc 0).trans h.c0
  have c1 := (cc 1).trans h.c1
  have c2 := (cc 2).trans h.c2
  have hon : Only (fun b => b = w.heap.size + 1) W6 (((W6.setCell ⟨w.heap.size + 1, 0, none⟩ (.int .u32 (x.1 : Nat))).setCell ⟨w.heap.size + 1, 1, none⟩ (.int .u32 (x.2.1 : Nat))).setCell ⟨w.heap.size + 1, 2, none⟩ (.int .u32 (x.2.2 : Nat))) :=
    (((Only.refl (fun b => b = w.heap.size + 1) W6).setCell (p := ⟨w.heap.size + 1, 0, none⟩) (fun _ => rfl) _).setCell (p := ⟨w.heap.size + 1, 1, none⟩) (fun _ => rfl) _).setCell (p := ⟨w.heap.size + 1, 2, none⟩) (fun _ => rfl) _
  refine ⟨by omega, ?_, by simp, fun l hl => ⟨by omega, by cases hl; exact hokx, by rw [hw]; simp⟩, by have := h.len; omega, ?_, by simp [cell_set_ite, c0, lastV], by simp [cell_set_ite, c1, lastV], by simp [cell_set_ite, c2, lastV], fun j => by simp [ff, h.f0], ?_, hc, ?_, by simp; omega⟩
  · rw [h.go, hr]
    conv => lhs; unfold rrowsGo
    rw [hx, if_neg h1, h2, if_neg (by simp), if_neg h3]
  · intro A' r' e
    rw [hw] at e
    obtain ⟨_, rfl⟩ := snoc_inj e
    rcases hq with ⟨A', r', ho, hrx, rfl⟩ | rfl
    · obtain ⟨h4, h5, h6⟩ := h.rows A' r' ho
      rw [ho, hasR_of, if_pos hrx] at h3
      exact ⟨(addArc_len _ _).2, by have := (addArc_len r'.2 x).1; simp only; omega, by simp only [addArc_sum]; omega⟩
    · exact ⟨by simp, by simp, by simp only [sumA_one]; omega⟩
  · refine (hrd.only hon (fun b hb _ e => ?_)).mono (fun b hb hl => ?_)
    · have := hB5.size
      rcases hb with hb | hb
      · exact hb.2.1 e
      · omega
    · have := hB5.size
      simp at hl ⊢
      rcases hb with hb | hb
      · exact ⟨hb.1, hb.2.1, by omega⟩
      · exact ⟨by omega, by omega, hl⟩
  · exact (((h.below.trans (hB.mono h.below.size)).setCell (by simp) _).setCell (by simp) _).setCell (by simp) _
theorem RowsRet.none {w W : World} {c n : Nat} {ao : Option Addr} {r : List RowD × Nat} (h : r = ([], n)) (hB : Below w.heap.size w W) (hc : c ≤ maxLen) : RowsRet r w (.returned (.tuple #[.slice ao 0 c, .int .i64 (n : Nat)])) W := by
  subst h; exact ⟨ao, c, rfl, by simp, hc, .inl rfl, hB⟩

theorem rrows_any (recs : List (List UInt8)) (ao : Option Addr) (cap : Nat) (w : World) (hl : recs.length ≤ 100000) (hrd : RdS (Rep.slice Rep.u8) (fun k => k < w.heap.size) w ao recs) :
    Calls Tryz.prog 26 #[.slice ao recs.length cap] w (RowsRet (rrows recs) w) := by
  have Hrd := Lib.hid hrd
  clear hrd
  go_enter Tryz.func26, Tryz.ntmps26
  go_wp2_with fail
  go_loopw [4, 14] (fun o i wr => rrI recs w o i wr) (fun _ i _ => recs.length - (intOf i).toNat)
  case atStart =>
    refine ⟨0, [], none, some ⟨w.heap.size, 0, none⟩, 0, rfl, rfl, ⟨by omega, rfl, fun _ => ⟨rfl, rfl⟩, by simp, by simp, by simp, ?_, ?_, ?_, fun j => ?_, .inl rfl, by simp [maxLen], (ext_alloc w _).alloc (by simp) _, by simp⟩⟩
    all_goals simp [go_sem, ↓IntWalk.iteOmega, lastV]
  case round =>
    obtain ⟨k, out, lastE, ao', cap', rfl, rfl, hS⟩ := hrel
    have hk := hS.hk
    have HS := Lib.hid hS
    clear hS
    by_cases hlt : k < recs.length
    · obtain ⟨bb, off, cs, rfl, hbw, hbb, ⟨ra, rc, rfl, hrc1, hrc2, hrr⟩, hcell⟩ := (Hrd.out.below HS.out.below (fun _ h => h)).at k hlt
      have hce := hcell 0 Nat.one_pos
      simp only [Rep.slice, Nat.mul_one, Nat.add_zero, List.getElem?_cons_zero] at hce
      have hir : (k : Int) < (recs.length : Int) := by omega
      have hdr : recs.drop k = recs[k] :: recs.drop (k + 1) := List.drop_eq_getElem_cons hlt
      obtain ⟨r, hr⟩ : ∃ r, recs[k] = r := ⟨_, rfl⟩
      rw [hr] at hce hrr hrc1 hdr
      have hO := rof_any r ra rc wr hrc1 hrr.rdU8
      have Hdr := Lib.hid hdr
      have hgo := HS.out.go
      rw [hdr] at hgo
      conv at hgo => rhs; unfold rrowsGo
      have hok := keyE_ok r
      obtain ⟨⟨x0, x1, x2⟩, hx⟩ : ∃ x, keyE r = x := ⟨_, rfl⟩
      rw [hx] at hgo hO hok
      simp only [edgeV] at hO
      have Hx := Lib.hid hx
      have Hok := Lib.hid hok
      have HOf := Lib.hid hO
      have Hgo := Lib.hid hgo
      clear hcell hrr hr hdr hgo hO hx hok
      by_cases h1 : r.length ≠ 12 ∨ x2 = 0
      · have hg := Hgo.out
        rw [if_pos h1] at hg
        have Hbad := Lib.hid hg
        clear hg
        by_cases h12 : r.length = 12
        · have hz : x2 = 0 := by omega
          have hd : decide (r.length = 12) = true := decide_eq_true h12
          rw [hd] at HOf
          subst hz
          clear h1 hd h12
          go_wp2_with (go_at_call 58; refine HOf.out.mono ?_; rintro e W2 ⟨rfl, hB2⟩; have hs2 := hB2.size; have HB2 := Lib.hid hB2; clear hB2)
          go_ret2
          have hs := HS.out.below.size
          exact RowsRet.none Hbad.out (((HS.out.below.trans (HB2.out.mono hs)).alloc (by omega) _).alloc (by simp; omega) _) (by simp [maxLen])
        · have hd : decide (r.length = 12) = false := decide_eq_false h12
          rw [hd] at HOf
          clear h1 hd h12
          go_wp2_with (go_at_call 58; refine HOf.out.mono ?_; rintro e W2 ⟨rfl, hB2⟩; have hs2 := hB2.size; have HB2 := Lib.hid hB2; clear hB2)
          go_ret2
          have hs := HS.out.below.size
          exact RowsRet.none Hbad.out (((HS.out.below.trans (HB2.out.mono hs)).alloc (by omega) _).alloc (by simp; omega) _) (by simp [maxLen])
      · have hd : decide (r.length = 12) = true := decide_eq_true (by omega)
        rw [hd] at HOf
        have hx2 : ((x2 : Int) == 0) = false := by simp; omega
        have H1 := Lib.hid h1
        clear hd
        have hg := Hgo.out
        rw [if_neg h1] at hg
        have Hg := Lib.hid hg
        clear hg h1
        have hxb : x2 < 4294967296 := Hok.out.2.2
        have hLw : w.heap.size + 1 < wr.heap.size := by have := HS.out.sz; omega
        cases hle : lastE with
        | none =>
          subst hle
          have h2 : isBelow none (x0, x1, x2) = false := rfl
          obtain ⟨hk0, ho0⟩ := HS.out.k0 rfl
          have hko : decide ((0 : Int) < (k : Int)) = false := decide_eq_false (by omega)
          have hko2 : decide (0 < k) = false := decide_eq_false (by omega)
          have hol : decide ((0 : Int) < (out.length : Int)) = false := decide_eq_false (by simp [ho0])
          have hol2 : decide (0 < out.length) = false := decide_eq_false (by simp [ho0])
          have hhas : hasR out (x0, x1, x2) = 0 := by rw [ho0]; rfl
          by_cases h3 : 2147483647 < hasR out (x0, x1, x2) + x2
          · have hd3 : decide ((2147483647 : Int) < (x2 : Int)) = true := decide_eq_true (by omega)
            clear hk0 ho0
            go_wp2_with (go_at_call 58; refine HOf.out.mono ?_; rintro e W2 ⟨rfl, hB2⟩; have hs2 := hB2.size; have HB2 := Lib.hid hB2; clear hB2)
            obtain ⟨W3, hW3⟩ : ∃ W3, W2.alloc (Obj.cells #[Value.int IntKind.u32 (x0 : Nat), Value.int IntKind.u32 (x1 : Nat), Value.int IntKind.u32 (x2 : Nat)] 48) = W3 := ⟨_, rfl⟩
            have hBr3 : Below wr.heap.size wr W3 := by rw [← hW3]; exact HB2.out.trans ((ext_alloc W2 _).mono HB2.out.size)
            have e0 : W3.cell? ⟨W2.heap.size, 0, none⟩ = some (.int .u32 (x0 : Nat)) := by rw [← hW3]; simp [go_sem, ↓IntWalk.iteOmega]
            have e1 : W3.cell? ⟨W2.heap.size, 1, none⟩ = some (.int .u32 (x1 : Nat)) := by rw [← hW3]; simp [go_sem, ↓IntWalk.iteOmega]
            have e2 : W3.cell? ⟨W2.heap.size, 2, none⟩ = some (.int .u32 (x2 : Nat)) := by rw [← hW3]; simp [go_sem, ↓IntWalk.iteOmega]
            have hs3 : W2.heap.size + 1 ≤ W3.heap.size := by rw [← hW3]; simp
            rw [hW3]
            have HB3 := Lib.hid hBr3
            clear hW3 hBr3
            go_wp2_with fail
            go_quiet (fail)
            obtain ⟨WQ, hWQ⟩ : ∃ WQ, (W3).drewN nq = WQ := ⟨_, rfl⟩
            have e0 : WQ.cell? ⟨W2.heap.size, 0, none⟩ = some (.int .u32 (x0 : Nat)) := by rw [← hWQ]; simpa [go_sem] using e0
            have e1 : WQ.cell? ⟨W2.heap.size, 1, none⟩ = some (.int .u32 (x1 : Nat)) := by rw [← hWQ]; simpa [go_sem] using e1
            have e2 : WQ.cell? ⟨W2.heap.size, 2, none⟩ = some (.int .u32 (x2 : Nat)) := by rw [← hWQ]; simpa [go_sem] using e2
            have hBQ : Below wr.heap.size wr WQ := by rw [← hWQ]; exact below_drewN HB3.out _
            have hsQ : W2.heap.size + 1 ≤ WQ.heap.size := by rw [← hWQ]; simpa using hs3
            rw [hWQ]
            have HBQ := Lib.hid hBQ
            clear hWQ hBQ
            have Hbad := Lib.hid (show rrows recs = ([], 10) by have h := Hg.out; rw [h2, if_neg (by simp), if_pos h3] at h; exact h)
            clear h3 h2
            go_wp2_with (fail)
            go_ret2
            exact RowsRet.none Hbad.out ((HS.out.below.trans (HBQ.out.mono HS.out.below.size)).alloc (by have := HBQ.out.size; have := HS.out.below.size; omega) _) (by simp [maxLen])
          · have hd3 : decide ((2147483647 : Int) < (x2 : Int)) = false := decide_eq_false (by omega)
            have HWith := Lib.hid (fun (W' : World) (hB : Below wr.heap.size wr W') => with_any out (x0, x1, x2) _ cap' W' (by have := HS.out.len; omega) Hok.out _ (fun b (hb : w.heap.size ≤ b ∧ b ≠ w.heap.size + 1 ∧ b < wr.heap.size) => Nat.lt_of_lt_of_le hb.2.2 hB.size) (HS.out.rd.ext hB) HS.out.capLe.1 (fun A q h => by
              obtain ⟨q1, q2, q3⟩ := HS.out.rows A q h
              refine ⟨q1, by omega, fun hq => ?_⟩
              have h4 := h3
              rw [h, hasR_of, if_pos hq] at h4
              have h4 : ¬ 2147483647 < sumA q.2 + x2 := h4
              show sumA q.2 + x2 ≤ 2147483647
              omega))
            simp only [edgeV] at HWith
            have H3 := Lib.hid h3
            have H2 := Lib.hid h2
            clear h3 h2
            clear hk0 ho0
            go_wp2_with (go_at_call 58; refine HOf.out.mono ?_; rintro e W2 ⟨rfl, hB2⟩; have hs2 := hB2.size; have HB2 := Lib.hid hB2; clear hB2)
            obtain ⟨W3, hW3⟩ : ∃ W3, W2.alloc (Obj.cells #[Value.int IntKind.u32 (x0 : Nat), Value.int IntKind.u32 (x1 : Nat), Value.int IntKind.u32 (x2 : Nat)] 48) = W3 := ⟨_, rfl⟩
            have hBr3 : Below wr.heap.size wr W3 := by rw [← hW3]; exact HB2.out.trans ((ext_alloc W2 _).mono HB2.out.size)
            have e0 : W3.cell? ⟨W2.heap.size, 0, none⟩ = some (.int .u32 (x0 : Nat)) := by rw [← hW3]; simp [go_sem, ↓IntWalk.iteOmega]
            have e1 : W3.cell? ⟨W2.heap.size, 1, none⟩ = some (.int .u32 (x1 : Nat)) := by rw [← hW3]; simp [go_sem, ↓IntWalk.iteOmega]
            have e2 : W3.cell? ⟨W2.heap.size, 2, none⟩ = some (.int .u32 (x2 : Nat)) := by rw [← hW3]; simp [go_sem, ↓IntWalk.iteOmega]
            have hs3 : W2.heap.size + 1 ≤ W3.heap.size := by rw [← hW3]; simp
            rw [hW3]
            have HB3 := Lib.hid hBr3
            clear hW3 hBr3
            go_wp2_with fail
            go_quiet (fail)
            obtain ⟨WQ, hWQ⟩ : ∃ WQ, (W3).drewN nq = WQ := ⟨_, rfl⟩
            have e0 : WQ.cell? ⟨W2.heap.size, 0, none⟩ = some (.int .u32 (x0 : Nat)) := by rw [← hWQ]; simpa [go_sem] using e0
            have e1 : WQ.cell? ⟨W2.heap.size, 1, none⟩ = some (.int .u32 (x1 : Nat)) := by rw [← hWQ]; simpa [go_sem] using e1
            have e2 : WQ.cell? ⟨W2.heap.size, 2, none⟩ = some (.int .u32 (x2 : Nat)) := by rw [← hWQ]; simpa [go_sem] using e2
            have hBQ : Below wr.heap.size wr WQ := by rw [← hWQ]; exact below_drewN HB3.out _
            have hsQ : W2.heap.size + 1 ≤ WQ.heap.size := by rw [← hWQ]; simpa using hs3
            rw [hWQ]
            have HBQ := Lib.hid hBQ
            clear hWQ hBQ
            go_wp2_with (first
              | fail
              | (go_at_call 60; refine (HWith.out _ HBQ.out).mono ?_; rintro e W6 ⟨ao6, cap6, rfl, hc6, hm6, hr6, hB6⟩; have g0 := ((bcell (HBQ.out.trans (hB6.mono HBQ.out.size))).1 (w.heap.size + 1) 0 hLw).trans HS.out.c0; have g1 := ((bcell (HBQ.out.trans (hB6.mono HBQ.out.size))).1 (w.heap.size + 1) 1 hLw).trans HS.out.c1; have g2 := ((bcell (HBQ.out.trans (hB6.mono HBQ.out.size))).1 (w.heap.size + 1) 2 hLw).trans HS.out.c2; have k0 := ((bcell (HBQ.out.trans (hB6.mono HBQ.out.size))).2 (w.heap.size + 1) 0 hLw).trans (HS.out.f0 0); have k1 := ((bcell (HBQ.out.trans (hB6.mono HBQ.out.size))).2 (w.heap.size + 1) 1 hLw).trans (HS.out.f0 1); have k2 := ((bcell (HBQ.out.trans (hB6.mono HBQ.out.size))).2 (w.heap.size + 1) 2 hLw).trans (HS.out.f0 2); have j0 := ((bcell hB6).1 W2.heap.size 0 hsQ).trans e0; have j1 := ((bcell hB6).1 W2.heap.size 1 hsQ).trans e1; have j2 := ((bcell hB6).1 W2.heap.size 2 hsQ).trans e2; have Hc6 := Lib.hid (And.intro hc6 hm6); have Hr6 := Lib.hid hr6; have HB6 := Lib.hid hB6; clear hc6 hm6 hr6 hB6))
            go_roundw
            case rel => exact ⟨k + 1, _, _, ao6, cap6, by go_num, rfl, HS.out.step hlt Hdr.out Hx.out H1.out H2.out H3.out HBQ.out HB6.out Hr6.out Hc6.out⟩
            case measure => simp [intOf]; omega
        | some l =>
          subst hle
          obtain ⟨hk0, hokl, hne⟩ := HS.out.k1 l rfl
          obtain ⟨A, ⟨fr, arcs⟩, ho⟩ : ∃ A q, out = A ++ [q] := by
            rcases List.eq_nil_or_concat out with h | ⟨A, q, h⟩
            · exact absurd h hne
            · exact ⟨A, q, by rw [h, List.concat_eq_append]⟩
          have hrdo := HS.out.rd
          rw [ho] at hrdo
          obtain ⟨bo, oo, ap, cp, rfl, hbo, hq0, hq1, hqf, hqc, hqm, hqa⟩ := hrdo.row A.length (by simp)
          simp only [List.getElem_concat_length] at hq0 hq1 hqf hqc hqa
          obtain ⟨q1, q2, q3⟩ := HS.out.rows A (fr, arcs) ho
          simp only at q1 q2 q3
          have hon : out.length = A.length + 1 := by rw [ho]; simp
          have hhas : hasR out (x0, x1, x2) = if fr = x0 then sumA arcs else 0 := by rw [ho, hasR_of]
          have hSum := fun (W' : World) (hB : Below wr.heap.size wr W') => rsum_any arcs ap cp _ W' (by omega) (hqa.ext hB)
          have HSum := Lib.hid hSum
          obtain ⟨l0', l1', l2'⟩ := l
          have l0 := HS.out.c0
          have l1 := HS.out.c1
          have l2 := HS.out.c2
          simp only [lastV, Option.getD_some] at l0 l1 l2
          have hBl := ebelow_any (x0, x1, x2) (l0', l1', l2')
          simp only [edgeV] at hBl
          have hlen := HS.out.len
          clear ho hrdo hne hqa hSum hqf
          generalize A.length = n at hq0 hq1 hon
          have hko : decide ((0 : Int) < (k : Int)) = true := decide_eq_true (by omega)
          have hko2 : decide (0 < k) = true := decide_eq_true (by omega)
          have hol : decide ((0 : Int) < (n : Int) + 1) = true := decide_eq_true (by omega)
          have hoi : (n : Int) < (n : Int) + 1 := by omega
          have hoi2 : (0 : Int) ≤ (n : Int) := by omega
          by_cases h2 : isBelow (some (l0', l1', l2')) (x0, x1, x2) = true
          · have Hbad := Lib.hid (show rrows recs = ([], 13) by have h := Hg.out; rw [if_pos h2] at h; exact h)
            have h2' : belowE (x0, x1, x2) (l0', l1', l2') = true := h2
            rw [h2'] at hBl
            have HBl := Lib.hid hBl
            clear hBl h2 h2' hhas
            go_wp2_with (first
  | (go_at_call 58; refine HOf.out.mono ?_; rintro e W2 ⟨rfl, hB2⟩; have hs2 := hB2.size; have l0 := ((bcell hB2).1 (w.heap.size + 1) 0 hLw).trans l0; have l1 := ((bcell hB2).1 (w.heap.size + 1) 1 hLw).trans l1; have l2 := ((bcell hB2).1 (w.heap.size + 1) 2 hLw).trans l2; have HB2 := Lib.hid hB2; clear hB2)
  | (go_at_call 59; refine (HBl.out _).mono ?_; rintro e W3 ⟨rfl, hB4⟩; have e0 := ((bcell hB4).1 W2.heap.size 0 (by simp)).trans (show _ = some (Value.int .u32 (x0 : Nat)) by simp [go_sem, ↓IntWalk.iteOmega]); have e1 := ((bcell hB4).1 W2.heap.size 1 (by simp)).trans (show _ = some (Value.int .u32 (x1 : Nat)) by simp [go_sem, ↓IntWalk.iteOmega]); have e2 := ((bcell hB4).1 W2.heap.size 2 (by simp)).trans (show _ = some (Value.int .u32 (x2 : Nat)) by simp [go_sem, ↓IntWalk.iteOmega]); have HB3 := Lib.hid ((HB2.out.trans ((ext_alloc W2 _).mono hs2)).trans (hB4.mono (by simp; omega))); have hs3 : W2.heap.size + 1 ≤ W3.heap.size := (by have := hB4.size; simpa using this); clear hB4))
            go_ret2
            exact RowsRet.none Hbad.out ((HS.out.below.trans (HB3.out.mono HS.out.below.size)).alloc (by have := HB3.out.size; have := HS.out.below.size; omega) _) (by simp [maxLen])
          · have h2 : isBelow (some (l0', l1', l2')) (x0, x1, x2) = false := by simpa using h2
            have h2' : belowE (x0, x1, x2) (l0', l1', l2') = false := h2
            rw [h2'] at hBl
            have HBl := Lib.hid hBl
            clear hBl h2'
            by_cases hf : fr = x0
            · rw [if_pos hf] at hhas
              have hq : ((fr : Int) == (x0 : Int)) = true := by simp [hf]
              by_cases h3 : 2147483647 < hasR out (x0, x1, x2) + x2
              · have hd3 : decide ((2147483647 : Int) < (sumA arcs : Int) + (x2 : Int)) = true := decide_eq_true (by omega)
                clear hf
                rw [hon]
                go_wp2_with (first
  | (go_at_call 58; refine HOf.out.mono ?_; rintro e W2 ⟨rfl, hB2⟩; have hs2 := hB2.size; have l0 := ((bcell hB2).1 (w.heap.size + 1) 0 hLw).trans l0; have l1 := ((bcell hB2).1 (w.heap.size + 1) 1 hLw).trans l1; have l2 := ((bcell hB2).1 (w.heap.size + 1) 2 hLw).trans l2; have HB2 := Lib.hid hB2; clear hB2)
  | (go_at_call 59; refine (HBl.out _).mono ?_; rintro e W3 ⟨rfl, hB4⟩; have e0 := ((bcell hB4).1 W2.heap.size 0 (by simp)).trans (show _ = some (Value.int .u32 (x0 : Nat)) by simp [go_sem, ↓IntWalk.iteOmega]); have e1 := ((bcell hB4).1 W2.heap.size 1 (by simp)).trans (show _ = some (Value.int .u32 (x1 : Nat)) by simp [go_sem, ↓IntWalk.iteOmega]); have e2 := ((bcell hB4).1 W2.heap.size 2 (by simp)).trans (show _ = some (Value.int .u32 (x2 : Nat)) by simp [go_sem, ↓IntWalk.iteOmega]); have HB3 := Lib.hid ((HB2.out.trans ((ext_alloc W2 _).mono hs2)).trans (hB4.mono (by simp; omega))); have hs3 : W2.heap.size + 1 ≤ W3.heap.size := (by have := hB4.size; simpa using this); clear hB4))
                have r0c := ((bcell HB3.out).1 bo (oo + n * 2) hbo).trans hq0
                have r1c := ((bcell HB3.out).1 bo (oo + n * 2 + 1) hbo).trans hq1
                go_quiet (fail)
                obtain ⟨WQ, hWQ⟩ : ∃ WQ, (W3).drewN nq = WQ := ⟨_, rfl⟩
                have e0 : WQ.cell? ⟨W2.heap.size, 0, none⟩ = some (.int .u32 (x0 : Nat)) := by rw [← hWQ]; simpa [go_sem] using e0
                have e1 : WQ.cell? ⟨W2.heap.size, 1, none⟩ = some (.int .u32 (x1 : Nat)) := by rw [← hWQ]; simpa [go_sem] using e1
                have e2 : WQ.cell? ⟨W2.heap.size, 2, none⟩ = some (.int .u32 (x2 : Nat)) := by rw [← hWQ]; simpa [go_sem] using e2
                have hBQ : Below wr.heap.size wr WQ := by rw [← hWQ]; exact below_drewN HB3.out _
                have hsQ : W2.heap.size + 1 ≤ WQ.heap.size := by rw [← hWQ]; simpa using hs3
                rw [hWQ]
                have HBQ := Lib.hid hBQ
                clear hWQ hBQ
                have r0c := ((bcell HBQ.out).1 bo (oo + n * 2) hbo).trans hq0
                have r1c := ((bcell HBQ.out).1 bo (oo + n * 2 + 1) hbo).trans hq1
                have Hbad := Lib.hid (show rrows recs = ([], 10) by have h := Hg.out; rw [h2, if_neg (by simp), if_pos h3] at h; exact h)
                clear h3 h2
                go_wp2_with ((go_at_call 56; refine (HSum.out _ HBQ.out).mono ?_; rintro e W5 ⟨rfl, hB5⟩; have e0 := ((bcell hB5).1 W2.heap.size 0 hsQ).trans e0; have e1 := ((bcell hB5).1 W2.heap.size 1 hsQ).trans e1; have e2 := ((bcell hB5).1 W2.heap.size 2 hsQ).trans e2; have HBQ := Lib.hid (HBQ.out.trans (hB5.mono HBQ.out.size)); have hsQ := Nat.le_trans hsQ hB5.size; clear hB5))
                go_ret2
                exact RowsRet.none Hbad.out ((HS.out.below.trans (HBQ.out.mono HS.out.below.size)).alloc (by have := HBQ.out.size; have := HS.out.below.size; omega) _) (by simp [maxLen])
              · have hd3 : decide ((2147483647 : Int) < (sumA arcs : Int) + (x2 : Int)) = false := decide_eq_false (by omega)
                have HWith := Lib.hid (fun (W' : World) (hB : Below wr.heap.size wr W') => with_any out (x0, x1, x2) _ cap' W' (by have := HS.out.len; omega) Hok.out _ (fun b (hb : w.heap.size ≤ b ∧ b ≠ w.heap.size + 1 ∧ b < wr.heap.size) => Nat.lt_of_lt_of_le hb.2.2 hB.size) (HS.out.rd.ext hB) HS.out.capLe.1 (fun A q h => by
                  obtain ⟨q1, q2, q3⟩ := HS.out.rows A q h
                  refine ⟨q1, by omega, fun hq => ?_⟩
                  have h4 := h3
                  rw [h, hasR_of, if_pos hq] at h4
                  have h4 : ¬ 2147483647 < sumA q.2 + x2 := h4
                  show sumA q.2 + x2 ≤ 2147483647
                  omega))
                simp only [edgeV] at HWith
                have H3 := Lib.hid h3
                have H2 := Lib.hid h2
                clear h3 h2
                clear hf
                rw [hon] at HWith ⊢
                go_wp2_with (first
  | (go_at_call 58; refine HOf.out.mono ?_; rintro e W2 ⟨rfl, hB2⟩; have hs2 := hB2.size; have l0 := ((bcell hB2).1 (w.heap.size + 1) 0 hLw).trans l0; have l1 := ((bcell hB2).1 (w.heap.size + 1) 1 hLw).trans l1; have l2 := ((bcell hB2).1 (w.heap.size + 1) 2 hLw).trans l2; have HB2 := Lib.hid hB2; clear hB2)
  | (go_at_call 59; refine (HBl.out _).mono ?_; rintro e W3 ⟨rfl, hB4⟩; have e0 := ((bcell hB4).1 W2.heap.size 0 (by simp)).trans (show _ = some (Value.int .u32 (x0 : Nat)) by simp [go_sem, ↓IntWalk.iteOmega]); have e1 := ((bcell hB4).1 W2.heap.size 1 (by simp)).trans (show _ = some (Value.int .u32 (x1 : Nat)) by simp [go_sem, ↓IntWalk.iteOmega]); have e2 := ((bcell hB4).1 W2.heap.size 2 (by simp)).trans (show _ = some (Value.int .u32 (x2 : Nat)) by simp [go_sem, ↓IntWalk.iteOmega]); have HB3 := Lib.hid ((HB2.out.trans ((ext_alloc W2 _).mono hs2)).trans (hB4.mono (by simp; omega))); have hs3 : W2.heap.size + 1 ≤ W3.heap.size := (by have := hB4.size; simpa using this); clear hB4))
                have r0c := ((bcell HB3.out).1 bo (oo + n * 2) hbo).trans hq0
                have r1c := ((bcell HB3.out).1 bo (oo + n * 2 + 1) hbo).trans hq1
                go_quiet (fail)
                obtain ⟨WQ, hWQ⟩ : ∃ WQ, (W3).drewN nq = WQ := ⟨_, rfl⟩
                have e0 : WQ.cell? ⟨W2.heap.size, 0, none⟩ = some (.int .u32 (x0 : Nat)) := by rw [← hWQ]; simpa [go_sem] using e0
                have e1 : WQ.cell? ⟨W2.heap.size, 1, none⟩ = some (.int .u32 (x1 : Nat)) := by rw [← hWQ]; simpa [go_sem] using e1
                have e2 : WQ.cell? ⟨W2.heap.size, 2, none⟩ = some (.int .u32 (x2 : Nat)) := by rw [← hWQ]; simpa [go_sem] using e2
                have hBQ : Below wr.heap.size wr WQ := by rw [← hWQ]; exact below_drewN HB3.out _
                have hsQ : W2.heap.size + 1 ≤ WQ.heap.size := by rw [← hWQ]; simpa using hs3
                rw [hWQ]
                have HBQ := Lib.hid hBQ
                clear hWQ hBQ
                have r0c := ((bcell HBQ.out).1 bo (oo + n * 2) hbo).trans hq0
                have r1c := ((bcell HBQ.out).1 bo (oo + n * 2 + 1) hbo).trans hq1
                go_wp2_with (first
                  | (go_at_call 56; refine (HSum.out _ HBQ.out).mono ?_; rintro e W5 ⟨rfl, hB5⟩; have e0 := ((bcell hB5).1 W2.heap.size 0 hsQ).trans e0; have e1 := ((bcell hB5).1 W2.heap.size 1 hsQ).trans e1; have e2 := ((bcell hB5).1 W2.heap.size 2 hsQ).trans e2; have HBQ := Lib.hid (HBQ.out.trans (hB5.mono HBQ.out.size)); have hsQ := Nat.le_trans hsQ hB5.size; clear hB5)
                  | (go_at_call 60; refine (HWith.out _ HBQ.out).mono ?_; rintro e W6 ⟨ao6, cap6, rfl, hc6, hm6, hr6, hB6⟩; have g0 := ((bcell (HBQ.out.trans (hB6.mono HBQ.out.size))).1 (w.heap.size + 1) 0 hLw).trans HS.out.c0; have g1 := ((bcell (HBQ.out.trans (hB6.mono HBQ.out.size))).1 (w.heap.size + 1) 1 hLw).trans HS.out.c1; have g2 := ((bcell (HBQ.out.trans (hB6.mono HBQ.out.size))).1 (w.heap.size + 1) 2 hLw).trans HS.out.c2; have k0 := ((bcell (HBQ.out.trans (hB6.mono HBQ.out.size))).2 (w.heap.size + 1) 0 hLw).trans (HS.out.f0 0); have k1 := ((bcell (HBQ.out.trans (hB6.mono HBQ.out.size))).2 (w.heap.size + 1) 1 hLw).trans (HS.out.f0 1); have k2 := ((bcell (HBQ.out.trans (hB6.mono HBQ.out.size))).2 (w.heap.size + 1) 2 hLw).trans (HS.out.f0 2); have j0 := ((bcell hB6).1 W2.heap.size 0 hsQ).trans e0; have j1 := ((bcell hB6).1 W2.heap.size 1 hsQ).trans e1; have j2 := ((bcell hB6).1 W2.heap.size 2 hsQ).trans e2; have Hc6 := Lib.hid (And.intro hc6 hm6); have Hr6 := Lib.hid hr6; have HB6 := Lib.hid hB6; clear hc6 hm6 hr6 hB6))
                go_roundw
                case rel => exact ⟨k + 1, _, _, ao6, cap6, by go_num, rfl, HS.out.step hlt Hdr.out Hx.out H1.out H2.out H3.out HBQ.out HB6.out Hr6.out Hc6.out⟩
                case measure => simp [intOf]; omega
            · rw [if_neg hf] at hhas
              have hq : ((fr : Int) == (x0 : Int)) = false := by simp; omega
              by_cases h3 : 2147483647 < hasR out (x0, x1, x2) + x2
              · have hd3 : decide ((2147483647 : Int) < (x2 : Int)) = true := decide_eq_true (by omega)
                clear hf
                rw [hon]
                go_wp2_with (first
  | (go_at_call 58; refine HOf.out.mono ?_; rintro e W2 ⟨rfl, hB2⟩; have hs2 := hB2.size; have l0 := ((bcell hB2).1 (w.heap.size + 1) 0 hLw).trans l0; have l1 := ((bcell hB2).1 (w.heap.size + 1) 1 hLw).trans l1; have l2 := ((bcell hB2).1 (w.heap.size + 1) 2 hLw).trans l2; have HB2 := Lib.hid hB2; clear hB2)
  | (go_at_call 59; refine (HBl.out _).mono ?_; rintro e W3 ⟨rfl, hB4⟩; have e0 := ((bcell hB4).1 W2.heap.size 0 (by simp)).trans (show _ = some (Value.int .u32 (x0 : Nat)) by simp [go_sem, ↓IntWalk.iteOmega]); have e1 := ((bcell hB4).1 W2.heap.size 1 (by simp)).trans (show _ = some (Value.int .u32 (x1 : Nat)) by simp [go_sem, ↓IntWalk.iteOmega]); have e2 := ((bcell hB4).1 W2.heap.size 2 (by simp)).trans (show _ = some (Value.int .u32 (x2 : Nat)) by simp [go_sem, ↓IntWalk.iteOmega]); have HB3 := Lib.hid ((HB2.out.trans ((ext_alloc W2 _).mono hs2)).trans (hB4.mono (by simp; omega))); have hs3 : W2.heap.size + 1 ≤ W3.heap.size := (by have := hB4.size; simpa using this); clear hB4))
                have r0c := ((bcell HB3.out).1 bo (oo + n * 2) hbo).trans hq0
                have r1c := ((bcell HB3.out).1 bo (oo + n * 2 + 1) hbo).trans hq1
                go_quiet (fail)
                obtain ⟨WQ, hWQ⟩ : ∃ WQ, (W3).drewN nq = WQ := ⟨_, rfl⟩
                have e0 : WQ.cell? ⟨W2.heap.size, 0, none⟩ = some (.int .u32 (x0 : Nat)) := by rw [← hWQ]; simpa [go_sem] using e0
                have e1 : WQ.cell? ⟨W2.heap.size, 1, none⟩ = some (.int .u32 (x1 : Nat)) := by rw [← hWQ]; simpa [go_sem] using e1
                have e2 : WQ.cell? ⟨W2.heap.size, 2, none⟩ = some (.int .u32 (x2 : Nat)) := by rw [← hWQ]; simpa [go_sem] using e2
                have hBQ : Below wr.heap.size wr WQ := by rw [← hWQ]; exact below_drewN HB3.out _
                have hsQ : W2.heap.size + 1 ≤ WQ.heap.size := by rw [← hWQ]; simpa using hs3
                rw [hWQ]
                have HBQ := Lib.hid hBQ
                clear hWQ hBQ
                have Hbad := Lib.hid (show rrows recs = ([], 10) by have h := Hg.out; rw [h2, if_neg (by simp), if_pos h3] at h; exact h)
                clear h3 h2
                go_wp2_with (fail)
                go_ret2
                exact RowsRet.none Hbad.out ((HS.out.below.trans (HBQ.out.mono HS.out.below.size)).alloc (by have := HBQ.out.size; have := HS.out.below.size; omega) _) (by simp [maxLen])
              · have hd3 : decide ((2147483647 : Int) < (x2 : Int)) = false := decide_eq_false (by omega)
                have HWith := Lib.hid (fun (W' : World) (hB : Below wr.heap.size wr W') => with_any out (x0, x1, x2) _ cap' W' (by have := HS.out.len; omega) Hok.out _ (fun b (hb : w.heap.size ≤ b ∧ b ≠ w.heap.size + 1 ∧ b < wr.heap.size) => Nat.lt_of_lt_of_le hb.2.2 hB.size) (HS.out.rd.ext hB) HS.out.capLe.1 (fun A q h => by
                  obtain ⟨q1, q2, q3⟩ := HS.out.rows A q h
                  refine ⟨q1, by omega, fun hq => ?_⟩
                  have h4 := h3
                  rw [h, hasR_of, if_pos hq] at h4
                  have h4 : ¬ 2147483647 < sumA q.2 + x2 := h4
                  show sumA q.2 + x2 ≤ 2147483647
                  omega))
                simp only [edgeV] at HWith
                have H3 := Lib.hid h3
                have H2 := Lib.hid h2
                clear h3 h2
                clear hf
                rw [hon] at HWith ⊢
                go_wp2_with (first
  | (go_at_call 58; refine HOf.out.mono ?_; rintro e W2 ⟨rfl, hB2⟩; have hs2 := hB2.size; have l0 := ((bcell hB2).1 (w.heap.size + 1) 0 hLw).trans l0; have l1 := ((bcell hB2).1 (w.heap.size + 1) 1 hLw).trans l1; have l2 := ((bcell hB2).1 (w.heap.size + 1) 2 hLw).trans l2; have HB2 := Lib.hid hB2; clear hB2)
  | (go_at_call 59; refine (HBl.out _).mono ?_; rintro e W3 ⟨rfl, hB4⟩; have e0 := ((bcell hB4).1 W2.heap.size 0 (by simp)).trans (show _ = some (Value.int .u32 (x0 : Nat)) by simp [go_sem, ↓IntWalk.iteOmega]); have e1 := ((bcell hB4).1 W2.heap.size 1 (by simp)).trans (show _ = some (Value.int .u32 (x1 : Nat)) by simp [go_sem, ↓IntWalk.iteOmega]); have e2 := ((bcell hB4).1 W2.heap.size 2 (by simp)).trans (show _ = some (Value.int .u32 (x2 : Nat)) by simp [go_sem, ↓IntWalk.iteOmega]); have HB3 := Lib.hid ((HB2.out.trans ((ext_alloc W2 _).mono hs2)).trans (hB4.mono (by simp; omega))); have hs3 : W2.heap.size + 1 ≤ W3.heap.size := (by have := hB4.size; simpa using this); clear hB4))
                have r0c := ((bcell HB3.out).1 bo (oo + n * 2) hbo).trans hq0
                have r1c := ((bcell HB3.out).1 bo (oo + n * 2 + 1) hbo).trans hq1
                go_quiet (fail)
                obtain ⟨WQ, hWQ⟩ : ∃ WQ, (W3).drewN nq = WQ := ⟨_, rfl⟩
                have e0 : WQ.cell? ⟨W2.heap.size, 0, none⟩ = some (.int .u32 (x0 : Nat)) := by rw [← hWQ]; simpa [go_sem] using e0
                have e1 : WQ.cell? ⟨W2.heap.size, 1, none⟩ = some (.int .u32 (x1 : Nat)) := by rw [← hWQ]; simpa [go_sem] using e1
                have e2 : WQ.cell? ⟨W2.heap.size, 2, none⟩ = some (.int .u32 (x2 : Nat)) := by rw [← hWQ]; simpa [go_sem] using e2
                have hBQ : Below wr.heap.size wr WQ := by rw [← hWQ]; exact below_drewN HB3.out _
                have hsQ : W2.heap.size + 1 ≤ WQ.heap.size := by rw [← hWQ]; simpa using hs3
                rw [hWQ]
                have HBQ := Lib.hid hBQ
                clear hWQ hBQ
                go_wp2_with (first
                  | fail
                  | (go_at_call 60; refine (HWith.out _ HBQ.out).mono ?_; rintro e W6 ⟨ao6, cap6, rfl, hc6, hm6, hr6, hB6⟩; have g0 := ((bcell (HBQ.out.trans (hB6.mono HBQ.out.size))).1 (w.heap.size + 1) 0 hLw).trans HS.out.c0; have g1 := ((bcell (HBQ.out.trans (hB6.mono HBQ.out.size))).1 (w.heap.size + 1) 1 hLw).trans HS.out.c1; have g2 := ((bcell (HBQ.out.trans (hB6.mono HBQ.out.size))).1 (w.heap.size + 1) 2 hLw).trans HS.out.c2; have k0 := ((bcell (HBQ.out.trans (hB6.mono HBQ.out.size))).2 (w.heap.size + 1) 0 hLw).trans (HS.out.f0 0); have k1 := ((bcell (HBQ.out.trans (hB6.mono HBQ.out.size))).2 (w.heap.size + 1) 1 hLw).trans (HS.out.f0 1); have k2 := ((bcell (HBQ.out.trans (hB6.mono HBQ.out.size))).2 (w.heap.size + 1) 2 hLw).trans (HS.out.f0 2); have j0 := ((bcell hB6).1 W2.heap.size 0 hsQ).trans e0; have j1 := ((bcell hB6).1 W2.heap.size 1 hsQ).trans e1; have j2 := ((bcell hB6).1 W2.heap.size 2 hsQ).trans e2; have Hc6 := Lib.hid (And.intro hc6 hm6); have Hr6 := Lib.hid hr6; have HB6 := Lib.hid hB6; clear hc6 hm6 hr6 hB6))
                go_roundw
                case rel => exact ⟨k + 1, _, _, ao6, cap6, by go_num, rfl, HS.out.step hlt Hdr.out Hx.out H1.out H2.out H3.out HBQ.out HB6.out Hr6.out Hc6.out⟩
                case measure => simp [intOf]; omega
    · obtain rfl : k = recs.length := by omega
      have hp := HS.out.go
      rw [List.drop_length] at hp
      have hp2 : rrows recs = (out, 0) := by rw [hp]; rfl
      have Hp := Lib.hid hp2
      have Hl2 := Lib.hid HS.out.capLe
      clear hp hp2
      go_wp2_with fail
      go_ret2
      show RowsRet (rrows recs) w (.returned (.tuple #[.slice ao' out.length cap', .int .i64 0])) wr
      rw [Hp.out]
      exact ⟨ao', cap', rfl, Hl2.out.1, Hl2.out.2, HS.out.rd.mono (fun b hb _ => hb.1), HS.out.below⟩
end Go.Proofs.YtcklfffeimnfeaaGreat

namespace Go.Proofs.YtcklfffeimnfeaaGreat
open Go.RowKit

def sameQ (n : Nat) (w : World) (i : Value) (wr : World) : Prop := ∃ k m : Nat, k ≤ n ∧ i = .int .i64 (k : Nat) ∧ wr = w.drewN m

end Go.Proofs.YtcklfffeimnfeaaGreat

namespace Go.Proofs.YtcklfffeimnfeaaGreat
open Go.RowKit

theorem RdS.edgeM {fp : Nat → Prop} {w : World} {ao : Option Addr} {l : List EdgeD} (h : RdS edgeRep fp w ao l) (k : Nat) (hk : k < l.length) :
    ∃ b off, ao = some ⟨b, off, none⟩ ∧ b < w.heap.size ∧ w.cell? ⟨b, off + k * 3, none⟩ = some (.int .u32 (l[k].1 : Nat)) ∧ w.cell? ⟨b, off + k * 3 + 1, none⟩ = some (.int .u32 (l[k].2.1 : Nat)) ∧ w.cell? ⟨b, off + k * 3 + 2, none⟩ = some (.int .u32 (l[k].2.2 : Nat)) ∧ okE l[k] := by
  obtain ⟨b, off, cs, rfl, _, hb, ⟨c, d, rfl, ⟨rfl, h1⟩, c2, d2, rfl, ⟨rfl, h2⟩, ⟨rfl, h3⟩⟩, hc⟩ := h.at k hk
  exact ⟨b, off, rfl, hb, hc 0 (by decide), hc 1 (by decide), hc 2 (by decide), h1, h2, h3⟩
def keysM (l : List EdgeD) : List (List UInt8) := l.map (fun x => key3 x.1 x.2.1 x.2.2)
theorem keysM_take (l : List EdgeD) (k : Nat) (h : k < l.length) : (keysM l).take (k + 1) = (keysM l).take k ++ [key3 l[k].1 l[k].2.1 l[k].2.2] := by
  unfold keysM
  rw [List.take_succ_eq_append_getElem (by simpa using h), List.getElem_map]
def KeysRet (L : List (List UInt8)) (w : World) (e : Ending) (w' : World) : Prop :=
  ∃ ao cap, e = .returned (.slice ao L.length cap) ∧ L.length ≤ cap ∧ cap ≤ maxLen ∧ RdS (Rep.slice Rep.u8) (fun k => w.heap.size ≤ k) w' ao L ∧ Below w.heap.size w w'
def ksI (l : List EdgeD) (w : World) (o i : Value) (wr : World) : Prop :=
  ∃ (k : Nat) (ao : Option Addr) (cap : Nat) (g : Option Nat) (fe : Nat → Prop), k ≤ l.length ∧ i = .int .i64 (k : Nat) ∧ o = .slice ao k cap ∧ OwnS (Rep.slice Rep.u8) fe wr ao cap g 68 ((keysM l).take k) ∧
    (∀ b, fe b → w.heap.size ≤ b ∧ b < wr.heap.size ∧ g ≠ some b) ∧ (∀ b, g = some b → w.heap.size ≤ b) ∧ Below w.heap.size w wr
theorem rowsElem : Elem Tryz.prog 65 68 1 24 (.slice none 0 0) := Elem.mk' Tryz.underlying65 (by kernel_rfl) rfl (by decide)

theorem rkeys_any (l : List EdgeD) (ao : Option Addr) (cap : Nat) (fp : Nat → Prop) (w : World) (hl : l.length ≤ 100000) (hrd : RdS edgeRep fp w ao l) :
    Calls Tryz.prog 27 #[.slice ao l.length cap] w (KeysRet (keysM l) w) := by
  have hE := rowsElem
  have Hrd := Lib.hid hrd
  clear hrd
  go_enter Tryz.func27, Tryz.ntmps27
  go_wp2_with fail
  go_loopw [3, 8] (fun o i wr => ksI l w o i wr) (fun _ i _ => l.length - (intOf i).toNat)
  case atStart =>
    exact ⟨0, some ⟨w.heap.size, 0, none⟩, 0, some w.heap.size, fun _ => False, by omega, rfl, rfl, ⟨[], Own.emptyAt w _ _ _ rfl, .nil⟩, fun b h => h.elim, (fun b h => by cases h; omega), ext_alloc w _⟩
  case round =>
    obtain ⟨k, ao', cap', g, fe, hk, rfl, rfl, hO, hfe, hg, hB⟩ := hrel
    by_cases hlt : k < l.length
    · obtain ⟨bb, off, rfl, hbb, hc0, hc1, hc2, hok⟩ := (Hrd.out.ext hB).edgeM k hlt
      have hir : (k : Int) < (l.length : Int) := by omega
      have hst := keysM_take l k hlt
      have hkl : ((keysM l).take k).length = k := by simp [keysM]; omega
      generalize l[k] = x at hc0 hc1 hc2 hok hst
      obtain ⟨x0, x1, x2⟩ := x
      simp only at hc0 hc1 hc2 hst
      have HKy := Lib.hid (rkey_any x0 x1 x2 hok.1 hok.2.1 hok.2.2)
      obtain ⟨css, hown0, hall⟩ := hO
      rw [hkl] at hown0
      have hown : Own wr ao' cap' g 68 1 k css.flatten := hown0
      have Hown := Lib.hid hown
      have Hall := Lib.hid hall
      have Hst := Lib.hid hst
      have Hkl := Lib.hid hkl
      have Hfe := Lib.hid hfe
      have Hg := Lib.hid hg
      have HB := Lib.hid hB
      have hsB := hB.size
      have hglt := hown.lt
      have Hglt := Lib.hid hglt
      clear hown0 hown hall hst hkl hfe hg hB hok hglt
      go_wp2_with (first
        | (go_at_call 61; (with_reducible refine (HKy.out _).mono ?_); rintro e w2 ⟨a2, c2, g2, rfl, ho2, hg2, hB2⟩; have hs2 := hB2.size; have Ho2 := Lib.hid ho2; have Hg2 := Lib.hid hg2; have HB2 := Lib.hid hB2; clear ho2 hg2 hB2)
        | (at_builtin; refine wpList_app rfl (.tmp 11) (.tmp 17) 65 65 rfl hE ((Hown.out.ext HB2.out).alloc _) rfl rfl (srcOne Tryz.underlying65 _ _ _ _ rfl) (by simp [maxLen]; omega) (by omega) ?_; intro ao3 cap3 g3 W3 ho3 hg3 hon3; have Ho3 := Lib.hid ho3; have Hg3 := Lib.hid hg3; have Hon3 := Lib.hid hon3; clear ho3 hg3 hon3))
      have hon : Only (fun j => g = some j) w2 W3 := ((Only.refl (fun j => g = some j) w2).alloc _).trans Hon3.out (fun _ _ h => h)
      have hs3 := hon.size
      have hg3' : ∀ b, g3 = some b → g = some b ∨ w2.heap.size ≤ b := fun b h => by
        rcases Hg3.out with e | e <;> rw [e] at h
        · exact .inl h
        · have h := Option.some.inj h; right; simp at h; omega
      have hg2l := Ho2.out.lt
      go_roundw
      case rel =>
        refine ⟨k + 1, ao3, cap3, g3, fun b => fe b ∨ g2 = some b, by omega, by go_num, rfl, ?_, fun b hb => ?_, fun b hb => ?_, ?_⟩
        · rw [Hst.out]
          refine OwnS.snoc (w := wr) (forall2_imp (fun x cs h => (Rep.slice Rep.u8).mono h (fun b hb _ => .inl hb)) Hall.out) (cs := [.slice a2 12 c2]) ⟨a2, c2, rfl, Ho2.out.capLe.1, Ho2.out.capLe.2, ?_⟩ (by rw [Hkl.out]; exact Ho3.out) (fun b hb hl => ?_) (by omega)
          · refine ((rdS_u8 (l := key3 x0 x1 x2) Ho2.out).only hon (fun b hb _ e => ?_)).mono (fun b hb _ => .inr hb)
            have := Hg2.out b hb; have := Hglt.out b e; omega
          · rcases hb with hb | hb
            · exact (hon.same b (by omega) (Hfe.out b hb).2.2).trans (HB2.out.block b hl)
            · have := Hg2.out b hb; omega
        · rcases hb with hb | hb
          · refine ⟨(Hfe.out b hb).1, by have := (Hfe.out b hb).2.1; omega, fun e => ?_⟩
            rcases hg3' b e with h | h
            · exact (Hfe.out b hb).2.2 h
            · have := (Hfe.out b hb).2.1; omega
          · have h1 := Hg2.out b hb
            have h2 := hg2l b hb
            refine ⟨by omega, by omega, fun e => ?_⟩
            rcases hg3' b e with h | h
            · have := Hglt.out b h; omega
            · omega
        · rcases hg3' b hb with h | h
          · exact Hg.out b h
          · omega
        · exact (HB.out.trans (HB2.out.mono hsB)).trans (hon.below (by omega) (fun j hj e => by have := Hg.out j e; omega))
      case measure => simp [intOf]; omega
    · obtain rfl : k = l.length := by omega
      have hlen : (keysM l).length = l.length := by simp [keysM]
      have e : (keysM l).take l.length = keysM l := by rw [← hlen, List.take_length]
      rw [e] at hO
      have HO := Lib.hid hO
      have HB := Lib.hid hB
      have Hl := Lib.hid hlen
      clear hO hB hlen e
      go_wp2_with fail
      go_ret
      exact ⟨ao', cap', by simp [Hl.out], HO.out.capLe.1, HO.out.capLe.2, HO.out.rd.mono (fun b hb _ => hb.elim (fun h => (hfe b h).1) (hg b)), HB.out⟩

def insR (x : EdgeD) (out : List EdgeD) : List EdgeD := out.takeWhile (fun e => !belowE x e) ++ [x] ++ out.dropWhile (fun e => !belowE x e)
def sortR (l : List EdgeD) : List EdgeD := l.foldl (fun out x => insR x out) []
theorem insR_len (x : EdgeD) (out : List EdgeD) : (insR x out).length = out.length + 1 := by
  unfold insR
  have := congrArg List.length (List.takeWhile_append_dropWhile (p := fun e => !belowE x e) (l := out))
  simp only [List.length_append, List.length_singleton] at this ⊢
  omega
theorem sortR_take (l : List EdgeD) (k : Nat) (h : k < l.length) : sortR (l.take (k + 1)) = insR l[k] (sortR (l.take k)) := by
  unfold sortR
  rw [List.take_succ_eq_append_getElem h, List.foldl_append]
  rfl
theorem sortR_len : ∀ (l : List EdgeD), (sortR l).length = l.length := by
  intro l
  have h : ∀ (l : List EdgeD) (out : List EdgeD), (l.foldl (fun out x => insR x out) out).length = out.length + l.length := by
    intro l
    induction l with
    | nil => intro out; rfl
    | cons x l ih => intro out; rw [List.foldl_cons, ih, insR_len, List.length_cons]; omega
  have := h l []
  simpa [sortR] using this
theorem take_while_take {α : Type} (p : α → Bool) (l : List α) : l.takeWhile p = l.take (l.takeWhile p).length ∧ l.dropWhile p = l.drop (l.takeWhile p).length := by
  induction l with
  | nil => exact ⟨rfl, rfl⟩
  | cons x l ih =>
    by_cases h : p x = true
    · rw [List.takeWhile_cons_of_pos h, List.dropWhile_cons_of_pos h]
      exact ⟨by rw [List.length_cons, List.take_succ_cons, ← ih.1], by rw [List.length_cons, List.drop_succ_cons]; exact ih.2⟩
    · rw [List.takeWhile_cons_of_neg h, List.dropWhile_cons_of_neg h]
      exact ⟨rfl, rfl⟩
theorem insR_eq (x : EdgeD) (out : List EdgeD) : insR x out = out.take (out.takeWhile (fun e => !belowE x e)).length ++ [x] ++ out.drop (out.takeWhile (fun e => !belowE x e)).length := by
  obtain ⟨t1, t2⟩ := take_while_take (fun e => !belowE x e) out
  unfold insR
  rw [t2, ← t1]
theorem take_while_at {α : Type} (p : α → Bool) (l : List α) : (∀ j (h : j < l.length), j < (l.takeWhile p).length → p l[j] = true) ∧ (∀ (h : (l.takeWhile p).length < l.length), p (l[(l.takeWhile p).length]) = false) ∧ (l.takeWhile p).length ≤ l.length := by
  induction l with
  | nil => exact ⟨fun j h => by simp at h, fun h => by simp at h, by simp⟩
  | cons x l ih =>
    by_cases h : p x = true
    · rw [List.takeWhile_cons_of_pos h]
      refine ⟨fun j hj hl => ?_, fun hl => ?_, by have := ih.2.2; simp; omega⟩
      · cases j with
        | zero => exact h
        | succ j => simp at hj hl ⊢; exact ih.1 j hj hl
      · simp at hl ⊢; exact ih.2.1 hl
    · rw [List.takeWhile_cons_of_neg h]
      exact ⟨fun j hj hl => by simp at hl, fun hl => by simpa using h, by simp⟩
def EdgesRet (L : List EdgeD) (w : World) (e : Ending) (w' : World) : Prop :=
  ∃ ao cap, e = .returned (.slice ao L.length cap) ∧ L.length ≤ cap ∧ cap ≤ maxLen ∧ RdS edgeRep (fun k => w.heap.size ≤ k) w' ao L ∧ Below w.heap.size w w'
theorem oneEdge : OneC edgeRep := OneC.prod (OneC.nat _ _) (OneC.prod (OneC.nat _ _) (OneC.nat _ _))
def stI (l : List EdgeD) (w : World) (o i : Value) (wr : World) : Prop :=
  ∃ (k b cap : Nat), k ≤ l.length ∧ i = .int .i64 (k : Nat) ∧ o = .slice (some ⟨b, 0, none⟩) k cap ∧ k ≤ cap ∧ cap ≤ maxLen ∧ RdS edgeRep (fun k => w.heap.size ≤ k) wr (some ⟨b, 0, none⟩) (sortR (l.take k)) ∧ Below w.heap.size w wr
def atI (n : Nat) (w : World) (i : Value) (wr : World) : Prop := ∃ j : Nat, j ≤ n ∧ i = .int .i64 (j : Nat) ∧ Below w.heap.size w wr

theorem rsorted_any (l : List EdgeD) (ao : Option Addr) (cap : Nat) (fp : Nat → Prop) (w : World) (hl : l.length ≤ 100000) (hrd : RdS edgeRep fp w ao l) :
    Calls Tryz.prog 28 #[.slice ao l.length cap] w (EdgesRet (sortR l) w) := by
  have hE := edgeElem
  have Hrd := Lib.hid hrd
  clear hrd
  go_enter Tryz.func28, Tryz.ntmps28
  go_wp2_with fail
  go_loopw [3, 10] (fun o i wr => stI l w o i wr) (fun _ i _ => l.length - (intOf i).toNat)
  case atStart => exact ⟨0, w.heap.size, 0, by omega, rfl, rfl, by omega, by simp [maxLen], .inl rfl, ext_alloc w _⟩
  case round =>
    obtain ⟨k, b, cap', hk, rfl, rfl, hc1, hc2, hO, hB⟩ := hrel
    by_cases hlt : k < l.length
    · obtain ⟨bb, off, rfl, hbb, lc0, lc1, lc2, hok⟩ := (Hrd.out.ext hB).edgeM k hlt
      have hir : (k : Int) < (l.length : Int) := by omega
      have hst := sortR_take l k hlt
      have hkl : (sortR (l.take k)).length = k := by rw [sortR_len]; simp; omega
      generalize l[k] = x at lc0 lc1 lc2 hok hst
      generalize hout : sortR (l.take k) = out at hO hst hkl
      obtain ⟨t3, t4, t5⟩ := take_while_at (fun e => !belowE x e) out
      rw [insR_eq] at hst
      generalize (out.takeWhile (fun e => !belowE x e)).length = n at hst t3 t4 t5
      obtain ⟨x0, x1, x2⟩ := x
      simp only at lc0 lc1 lc2
      have hkn : n ≤ k := by omega
      have Hst := Lib.hid hst
      have Hkl := Lib.hid hkl
      have HO := Lib.hid hO
      have HB := Lib.hid hB
      have T3 := Lib.hid t3
      have T4 := Lib.hid t4
      have Hok := Lib.hid hok
      clear hst hkl hO hB t3 t4 t5 hout hok
      go_wp2_with fail
      rename World => wo
      go_loopw [5] (fun i wi => atI n wo i wi) (fun i _ => n - (intOf i).toNat)
      case atStart => exact ⟨0, by omega, rfl, Below.refl _ _⟩
      case round =>
        obtain ⟨q, hj, rfl, hBi⟩ := hrel
        by_cases hqn : q < n
        · have hbel : belowE (x0, x1, x2) (out[q]'(by have := Hkl.out; omega)) = false := by simpa using T3.out q (by have := Hkl.out; omega) hqn
          obtain ⟨b', off', hab, hbo, n0, n1, n2, hoke⟩ := (HO.out.ext hBi).edgeM q (by have := Hkl.out; omega)
          cases hab
          obtain ⟨⟨e0, e1, e2⟩, he⟩ : ∃ e, out[q]'(by have := Hkl.out; omega) = e := ⟨_, rfl⟩
          rw [he] at n0 n1 n2 hbel
          simp only [Nat.zero_add] at n0 n1 n2
          have hBl := ebelow_any (x0, x1, x2) (e0, e1, e2)
          simp only [edgeV] at hBl
          rw [hbel] at hBl
          have HBl := Lib.hid hBl
          have m0 := ((bcell hBi).1 bb _ hbb).trans lc0
          have m1 := ((bcell hBi).1 bb _ hbb).trans lc1
          have m2 := ((bcell hBi).1 bb _ hbb).trans lc2
          have hbi : bb < wr.heap.size := Nat.lt_of_lt_of_le hbb hBi.size
          have HBi := Lib.hid hBi
          have hqk : decide ((q : Int) < (k : Int)) = true := decide_eq_true (by omega)
          have hqk2 : (q : Int) < (k : Int) := by omega
          have hq0 : (0 : Int) ≤ (q : Int) := by omega
          have hk0 : (0 : Int) ≤ (k : Int) := by omega
          clear hbel he hBl hoke hBi
          go_wp2_with fail
          go_region_held3 (fun w' => w'.cell? ⟨bb, off + k * 3, none⟩ = some (.int .u32 (x0 : Nat)) ∧ w'.cell? ⟨bb, off + k * 3 + 1, none⟩ = some (.int .u32 (x1 : Nat)) ∧ w'.cell? ⟨bb, off + k * 3 + 2, none⟩ = some (.int .u32 (x2 : Nat)) ∧ w'.cell? ⟨b, q * 3, none⟩ = some (.int .u32 (e0 : Nat)) ∧ w'.cell? ⟨b, q * 3 + 1, none⟩ = some (.int .u32 (e1 : Nat)) ∧ w'.cell? ⟨b, q * 3 + 2, none⟩ = some (.int .u32 (e2 : Nat)))
            (first | exact ⟨m0, m1, m2, n0, n1, n2⟩ | exact HP.out)
            (first
              | (go_at_call 59; refine (HBl.out _).mono ?_; rintro e w6 ⟨rfl, hB6⟩; have hB6' : Below wr.heap.size wr w6 := (ext_drew wr).trans hB6; have HP := Lib.hid (And.intro (((bcell hB6').1 bb _ hbi).trans m0) (And.intro (((bcell hB6').1 bb _ hbi).trans m1) (And.intro (((bcell hB6').1 bb _ hbi).trans m2) (And.intro (((bcell hB6').1 b _ hbo).trans n0) (And.intro (((bcell hB6').1 b _ hbo).trans n1) (((bcell hB6').1 b _ hbo).trans n2)))))); have HB6 := Lib.hid (HBi.out.trans (hB6'.mono HBi.out.size)); clear hB6 hB6')
              | fail "no arm")
          go_wp2_with fail
          go_roundw
          case rel => exact ⟨q + 1, by omega, by go_num, HB6.out⟩
          case measure => simp [intOf]; omega
        · obtain rfl : q = n := by omega
          by_cases hqk' : q < k
          · have hbel : belowE (x0, x1, x2) (out[q]'(by have := Hkl.out; omega)) = true := by simpa using T4.out (by have := Hkl.out; omega)
            have hcq1 : (q : Int) < (cap' : Int) := by omega
            obtain ⟨b', off', hab, hbo, n0, n1, n2, hoke⟩ := (HO.out.ext hBi).edgeM q (by have := Hkl.out; omega)
            cases hab
            obtain ⟨⟨e0, e1, e2⟩, he⟩ : ∃ e, out[q]'(by have := Hkl.out; omega) = e := ⟨_, rfl⟩
            rw [he] at n0 n1 n2 hbel
            simp only [Nat.zero_add] at n0 n1 n2
            have hBl := ebelow_any (x0, x1, x2) (e0, e1, e2)
            simp only [edgeV] at hBl
            rw [hbel] at hBl
            have HBl := Lib.hid hBl
            have m0 := ((bcell hBi).1 bb _ hbb).trans lc0
            have m1 := ((bcell hBi).1 bb _ hbb).trans lc1
            have m2 := ((bcell hBi).1 bb _ hbb).trans lc2
            have hbi : bb < wr.heap.size := Nat.lt_of_lt_of_le hbb hBi.size
            have HBi := Lib.hid hBi
            have hqk : decide ((q : Int) < (k : Int)) = true := decide_eq_true (by omega)
            have hqk2 : (q : Int) < (k : Int) := by omega
            have hq0 : (0 : Int) ≤ (q : Int) := by omega
            have hk0 : (0 : Int) ≤ (k : Int) := by omega
            clear hbel he hBl hoke hBi
            go_wp2_with fail
            go_region_held3 (fun w' => w'.cell? ⟨bb, off + k * 3, none⟩ = some (.int .u32 (x0 : Nat)) ∧ w'.cell? ⟨bb, off + k * 3 + 1, none⟩ = some (.int .u32 (x1 : Nat)) ∧ w'.cell? ⟨bb, off + k * 3 + 2, none⟩ = some (.int .u32 (x2 : Nat)) ∧ w'.cell? ⟨b, q * 3, none⟩ = some (.int .u32 (e0 : Nat)) ∧ w'.cell? ⟨b, q * 3 + 1, none⟩ = some (.int .u32 (e1 : Nat)) ∧ w'.cell? ⟨b, q * 3 + 2, none⟩ = some (.int .u32 (e2 : Nat)))
              (first | exact ⟨m0, m1, m2, n0, n1, n2⟩ | exact HP.out)
              (first
                | (go_at_call 59; refine (HBl.out _).mono ?_; rintro e w6 ⟨rfl, hB6⟩; have hB6' : Below wr.heap.size wr w6 := (ext_drew wr).trans hB6; have HP := Lib.hid (And.intro (((bcell hB6').1 bb _ hbi).trans m0) (And.intro (((bcell hB6').1 bb _ hbi).trans m1) (And.intro (((bcell hB6').1 bb _ hbi).trans m2) (And.intro (((bcell hB6').1 b _ hbo).trans n0) (And.intro (((bcell hB6').1 b _ hbo).trans n1) (((bcell hB6').1 b _ hbo).trans n2)))))); have HB6 := Lib.hid (HBi.out.trans (hB6'.mono HBi.out.size)); clear hB6 hB6')
                | fail "no arm")
            have hdr := HO.out.drop q
            rw [Nat.zero_add] at hdr
            have hdr2 : RdS edgeRep _ _ (some ⟨b, q * 3, none⟩) (out.drop q) := hdr
            obtain ⟨css2, hall2, hsrc2⟩ := hdr2.srcAll oneEdge (P := Tryz.prog) (tx := 22) Tryz.underlying22
            have hl2 : (out.drop q).length = k - q := by have := Hkl.out; rw [List.length_drop]; omega
            rw [hl2] at hsrc2
            have Hsrc2 := Lib.hid hsrc2
            have Hall2 := Lib.hid hall2
            clear hall2 hsrc2 hl2 hdr hdr2
            obtain ⟨css1, hall1, hsrc1⟩ := (HO.out.take q).srcAll oneEdge (P := Tryz.prog) (tx := 22) Tryz.underlying22
            have hl1 : (out.take q).length = q := by have := Hkl.out; rw [List.length_take]; omega
            rw [hl1] at hsrc1
            have Hsrc1 := Lib.hid hsrc1
            have Hall1 := Lib.hid hall1
            have hsW := HB6.out.size
            try have hqc : (q : Int) ≤ (cap' : Int) := by omega
            have hqk3 : (q : Int) ≤ (k : Int) := by omega
            try have hkc : (k : Int) ≤ (cap' : Int) := by omega
            have hkc2 : (k : Int) ≤ (l.length : Int) := by omega
            clear hall1 hsrc1 hl1
            go_wp2_with (first
              | (at_builtin; refine wpList_app rfl (.tmp 31) (.tmp 34) 22 22 rfl hE (Own.emptyAt _ 48 3 _ (by simp)) rfl rfl (Hsrc1.out _ (HB6.out.alloc hsW _) _) (by simp [maxLen]; omega) (by omega) ?_; intro ao7 cap7 g7 w7 ho7 hg7 hon7; rw [Nat.zero_add, List.nil_append] at ho7; have hB7 := (ext_alloc w6 _).trans (hon7.below (by simp) (fun j hj e => by have := Option.some.inj e; omega)); have hB7o := HB6.out.trans (hB7.mono hsW); have r0 := ((bcell hB7o).1 bb _ hbb).trans lc0; have r1 := ((bcell hB7o).1 bb _ hbb).trans lc1; have r2 := ((bcell hB7o).1 bb _ hbb).trans lc2; have hg7n : ∀ j, g7 = some j → w6.heap.size ≤ j := (fun j h => by rcases hg7 with e | e <;> rw [e] at h <;> have h := Option.some.inj h <;> first | omega | (simp at h; omega)); have Hg7 := Lib.hid hg7n; have Ho7 := Lib.hid ho7; have HB7 := Lib.hid hB7o; have hs7 := hB7.size; clear ho7 hg7 hon7 hB7 hB7o hg7n)
              | (at_builtin; refine wpList_app rfl (.tmp 36) (.tmp 41) 22 22 rfl hE (Ho7.out.alloc _) rfl rfl (srcManyE Tryz.underlying22 _ [_, _, _] _ _ 3 _ (by simp) rfl (by simp [Value.oneCell'])) (by simp [maxLen]; omega) (by omega) ?_; intro ao8 cap8 g8 w8 ho8 hg8 hon8; have hB8 : Below w6.heap.size w7 w8 := ((ext_alloc w7 _).mono hs7).trans (hon8.below (by simp; omega) (fun j hj e => by have := Hg7.out j e; omega)); have hg8n : ∀ j, g8 = some j → w6.heap.size ≤ j := (fun j h => by rcases hg8 with e | e <;> rw [e] at h <;> first | exact Hg7.out j h | (have h := Option.some.inj h; first | omega | (simp at h; omega))); have Hg8 := Lib.hid hg8n; have Ho8 := Lib.hid ho8; have HB8 := Lib.hid (HB7.out.trans (hB8.mono hsW)); have hs8 := hB8.size; clear ho8 hg8 hon8 hB8 hg8n)
              | (at_builtin; refine wpList_app rfl (.tmp 43) (.tmp 46) 22 22 rfl hE Ho8.out rfl rfl (Hsrc2.out _ HB8.out _) (by simp [maxLen]; omega) (by first | omega | (simp; omega)) ?_; intro ao9 cap9 g9 w9 ho9 hg9 hon9; have hB9 : Below w6.heap.size w8 w9 := hon9.below (by omega) (fun j hj e => by have := Hg8.out j e; omega); have hg9n : ∀ j, g9 = some j → w6.heap.size ≤ j := (fun j h => by rcases hg9 with e | e <;> rw [e] at h <;> first | exact Hg8.out j h | (have h := Option.some.inj h; first | omega | (simp at h; omega))); have Hg9 := Lib.hid hg9n; have Ho9 := Lib.hid ho9; have HB9 := Lib.hid (HB8.out.trans (hB9.mono hsW)); clear ho9 hg9 hon9 hB9 hg9n))
            go_roundw
            case rel =>
              have ho9 := Ho9.out
              obtain ⟨b9, hgb, rfl, hb9⟩ := ho9.pos (by omega)
              have hcl := ho9.capLe
              have hlen : (sortR (l.take (k + 1))).length = k + 1 := by rw [sortR_len]; simp; omega
              have hsW := HB6.out.size
              refine ⟨k + 1, b9, cap9, by omega, by go_num, by congr 1; first | omega | (have := Hqke.out; omega), by first | omega | (have := Hqke.out; omega), hcl.2, ?_, HB.out.trans (HB9.out.mono HB.out.size)⟩
              rw [Hst.out]
              have hA1 := all2_mono (fp' := fun k => w.heap.size ≤ k) Hall1.out (fun b _ hl => HB9.out.block b hl) HB9.out.size (fun _ h => h)
              have hA2 := all2_mono (fp' := fun k => w.heap.size ≤ k) Hall2.out (fun b _ hl => HB9.out.block b hl) HB9.out.size (fun _ h => h)
              have hlr : (out.take q ++ [(x0, x1, x2)] ++ out.drop q).length = q + 1 + (k - q) := by have := Hkl.out; simp; first | omega | (have := Hqke.out; omega)
              have hJ : OwnS edgeRep (fun k => w.heap.size ≤ k) w9 (some ⟨b9, 0, none⟩) cap9 g9 48 (out.take q ++ [(x0, x1, x2)] ++ out.drop q) := ⟨css1 ++ [edgeCs (x0, x1, x2)] ++ css2, by rw [hlr]; simpa [edgeCs] using (show Own w9 (some ⟨b9, 0, none⟩) cap9 g9 48 edgeRep.size (q + 1 + (k - q)) _ from ho9), all2_append (all2_append hA1 (.cons (edgeRep_ok Hok.out) .nil)) hA2⟩
              exact hJ.rd.mono (fun b h _ => h.elim id (fun h => by have := Hg9.out b h; have := HB.out.size; omega))
            case measure => simp [intOf]; omega
          · have hqk : decide ((q : Int) < (k : Int)) = false := decide_eq_false (by omega)
            have hqke : q = k := by omega
            have hq0 : (0 : Int) ≤ (q : Int) := by omega
            have hk0 : (0 : Int) ≤ (k : Int) := by omega
            have hqkN : decide (q < k) = false := decide_eq_false (by omega)
            have Hqke := Lib.hid hqke
            have Hqk' := Lib.hid hqk'
            clear hqke hqk'
            have HBi := Lib.hid hBi
            clear hBi
            by_cases hcc : cap' = q
            · have hcc' : q = cap' := hcc.symm
              subst hcc'
              have hkc : (k : Int) ≤ (q : Int) := by have := Hqke.out; omega
              go_wp2_with fail
              go_quiet (fail)
              obtain ⟨wq, hwq⟩ : ∃ z, wr.drewN nq = z := ⟨_, rfl⟩
              have HBq := Lib.hid (show Below wo.heap.size wo wq by rw [← hwq]; exact below_drewN HBi.out _)
              rw [hwq]
              clear hwq hcc
              obtain ⟨css2, hall2, hsrc2⟩ := (RdS.nil edgeRep (fun k => w.heap.size ≤ k) wo (some ⟨b, 0, none⟩)).srcAll oneEdge (P := Tryz.prog) (tx := 22) Tryz.underlying22
              have Hsrc2 := Lib.hid (fun W' h => hsrc2 W' h 0)
              have hde : out.drop q = [] := List.drop_eq_nil_of_le (by have := Hkl.out; omega)
              rw [← hde] at hall2
              have Hall2 := Lib.hid hall2
              clear hall2 hsrc2 hde
              obtain ⟨css1, hall1, hsrc1⟩ := (HO.out.take q).srcAll oneEdge (P := Tryz.prog) (tx := 22) Tryz.underlying22
              have hl1 : (out.take q).length = q := by have := Hkl.out; rw [List.length_take]; omega
              rw [hl1] at hsrc1
              have Hsrc1 := Lib.hid hsrc1
              have Hall1 := Lib.hid hall1
              have hsW := HBq.out.size
              try have hqc : (q : Int) ≤ (cap' : Int) := by omega
              have hqk3 : (q : Int) ≤ (k : Int) := by omega
              try have hkc : (k : Int) ≤ (cap' : Int) := by omega
              have hkc2 : (k : Int) ≤ (l.length : Int) := by omega
              clear hall1 hsrc1 hl1
              go_wp2_with (first
                | (at_builtin; refine wpList_app rfl (.tmp 31) (.tmp 34) 22 22 rfl hE (Own.emptyAt _ 48 3 _ (by simp)) rfl rfl (Hsrc1.out _ (HBq.out.alloc hsW _) _) (by simp [maxLen]; omega) (by omega) ?_; intro ao7 cap7 g7 w7 ho7 hg7 hon7; rw [Nat.zero_add, List.nil_append] at ho7; have hB7 := (ext_alloc wq _).trans (hon7.below (by simp) (fun j hj e => by have := Option.some.inj e; omega)); have hB7o := HBq.out.trans (hB7.mono hsW); have r0 := ((bcell hB7o).1 bb _ hbb).trans lc0; have r1 := ((bcell hB7o).1 bb _ hbb).trans lc1; have r2 := ((bcell hB7o).1 bb _ hbb).trans lc2; have hg7n : ∀ j, g7 = some j → wq.heap.size ≤ j := (fun j h => by rcases hg7 with e | e <;> rw [e] at h <;> have h := Option.some.inj h <;> first | omega | (simp at h; omega)); have Hg7 := Lib.hid hg7n; have Ho7 := Lib.hid ho7; have HB7 := Lib.hid hB7o; have hs7 := hB7.size; clear ho7 hg7 hon7 hB7 hB7o hg7n)
                | (at_builtin; refine wpList_app rfl (.tmp 36) (.tmp 41) 22 22 rfl hE (Ho7.out.alloc _) rfl rfl (srcManyE Tryz.underlying22 _ [_, _, _] _ _ 3 _ (by simp) rfl (by simp [Value.oneCell'])) (by simp [maxLen]; omega) (by omega) ?_; intro ao8 cap8 g8 w8 ho8 hg8 hon8; have hB8 : Below wq.heap.size w7 w8 := ((ext_alloc w7 _).mono hs7).trans (hon8.below (by simp; omega) (fun j hj e => by have := Hg7.out j e; omega)); have hg8n : ∀ j, g8 = some j → wq.heap.size ≤ j := (fun j h => by rcases hg8 with e | e <;> rw [e] at h <;> first | exact Hg7.out j h | (have h := Option.some.inj h; first | omega | (simp at h; omega))); have Hg8 := Lib.hid hg8n; have Ho8 := Lib.hid ho8; have HB8 := Lib.hid (HB7.out.trans (hB8.mono hsW)); have hs8 := hB8.size; clear ho8 hg8 hon8 hB8 hg8n)
                | (at_builtin; refine wpList_app rfl (.tmp 43) (.tmp 46) 22 22 rfl hE Ho8.out rfl rfl (Hsrc2.out _ HB8.out) (by simp [maxLen]; omega) (by first | omega | (simp; omega)) ?_; intro ao9 cap9 g9 w9 ho9 hg9 hon9; have hB9 : Below wq.heap.size w8 w9 := hon9.below (by omega) (fun j hj e => by have := Hg8.out j e; omega); have hg9n : ∀ j, g9 = some j → wq.heap.size ≤ j := (fun j h => by rcases hg9 with e | e <;> rw [e] at h <;> first | exact Hg8.out j h | (have h := Option.some.inj h; first | omega | (simp at h; omega))); have Hg9 := Lib.hid hg9n; have Ho9 := Lib.hid ho9; have HB9 := Lib.hid (HB8.out.trans (hB9.mono hsW)); clear ho9 hg9 hon9 hB9 hg9n))
              go_roundw
              case rel =>
                have ho9 := Ho9.out
                obtain ⟨b9, hgb, rfl, hb9⟩ := ho9.pos (by omega)
                have hcl := ho9.capLe
                have hlen : (sortR (l.take (k + 1))).length = k + 1 := by rw [sortR_len]; simp; omega
                have hsW := HBq.out.size
                refine ⟨k + 1, b9, cap9, by omega, by go_num, by congr 1; first | omega | (have := Hqke.out; omega), by first | omega | (have := Hqke.out; omega), hcl.2, ?_, HB.out.trans (HB9.out.mono HB.out.size)⟩
                rw [Hst.out]
                have hA1 := all2_mono (fp' := fun k => w.heap.size ≤ k) Hall1.out (fun b _ hl => HB9.out.block b hl) HB9.out.size (fun _ h => h)
                have hA2 := all2_mono (fp' := fun k => w.heap.size ≤ k) Hall2.out (fun b _ hl => HB9.out.block b hl) HB9.out.size (fun _ h => h)
                have hlr : (out.take q ++ [(x0, x1, x2)] ++ out.drop q).length = q + 1 + 0 := by have := Hkl.out; simp; first | omega | (have := Hqke.out; omega)
                have hJ : OwnS edgeRep (fun k => w.heap.size ≤ k) w9 (some ⟨b9, 0, none⟩) cap9 g9 48 (out.take q ++ [(x0, x1, x2)] ++ out.drop q) := ⟨css1 ++ [edgeCs (x0, x1, x2)] ++ css2, by rw [hlr]; simpa [edgeCs] using (show Own w9 (some ⟨b9, 0, none⟩) cap9 g9 48 edgeRep.size (q + 1 + 0) _ from ho9), all2_append (all2_append hA1 (.cons (edgeRep_ok Hok.out) .nil)) hA2⟩
                exact hJ.rd.mono (fun b h _ => h.elim id (fun h => by have := Hg9.out b h; have := HB.out.size; omega))
              case measure => simp [intOf]; omega
            · have hcq1 : (q : Int) < (cap' : Int) := by have := Hqke.out; omega
              go_wp2_with fail
              go_quiet (fail)
              obtain ⟨wq, hwq⟩ : ∃ z, wr.drewN nq = z := ⟨_, rfl⟩
              have HBq := Lib.hid (show Below wo.heap.size wo wq by rw [← hwq]; exact below_drewN HBi.out _)
              rw [hwq]
              clear hwq
              have hdr := HO.out.drop q
              rw [Nat.zero_add] at hdr
              have hdr2 : RdS edgeRep _ _ (some ⟨b, q * 3, none⟩) (out.drop q) := hdr
              obtain ⟨css2, hall2, hsrc2⟩ := hdr2.srcAll oneEdge (P := Tryz.prog) (tx := 22) Tryz.underlying22
              have hl2 : (out.drop q).length = k - q := by have := Hkl.out; rw [List.length_drop]; omega
              rw [hl2] at hsrc2
              have Hsrc2 := Lib.hid hsrc2
              have Hall2 := Lib.hid hall2
              clear hall2 hsrc2 hl2 hdr hdr2
              obtain ⟨css1, hall1, hsrc1⟩ := (HO.out.take q).srcAll oneEdge (P := Tryz.prog) (tx := 22) Tryz.underlying22
              have hl1 : (out.take q).length = q := by have := Hkl.out; rw [List.length_take]; omega
              rw [hl1] at hsrc1
              have Hsrc1 := Lib.hid hsrc1
              have Hall1 := Lib.hid hall1
              have hsW := HBq.out.size
              try have hqc : (q : Int) ≤ (cap' : Int) := by omega
              have hqk3 : (q : Int) ≤ (k : Int) := by omega
              try have hkc : (k : Int) ≤ (cap' : Int) := by omega
              have hkc2 : (k : Int) ≤ (l.length : Int) := by omega
              clear hall1 hsrc1 hl1
              go_wp2_with (first
                | (at_builtin; refine wpList_app rfl (.tmp 31) (.tmp 34) 22 22 rfl hE (Own.emptyAt _ 48 3 _ (by simp)) rfl rfl (Hsrc1.out _ (HBq.out.alloc hsW _) _) (by simp [maxLen]; omega) (by omega) ?_; intro ao7 cap7 g7 w7 ho7 hg7 hon7; rw [Nat.zero_add, List.nil_append] at ho7; have hB7 := (ext_alloc wq _).trans (hon7.below (by simp) (fun j hj e => by have := Option.some.inj e; omega)); have hB7o := HBq.out.trans (hB7.mono hsW); have r0 := ((bcell hB7o).1 bb _ hbb).trans lc0; have r1 := ((bcell hB7o).1 bb _ hbb).trans lc1; have r2 := ((bcell hB7o).1 bb _ hbb).trans lc2; have hg7n : ∀ j, g7 = some j → wq.heap.size ≤ j := (fun j h => by rcases hg7 with e | e <;> rw [e] at h <;> have h := Option.some.inj h <;> first | omega | (simp at h; omega)); have Hg7 := Lib.hid hg7n; have Ho7 := Lib.hid ho7; have HB7 := Lib.hid hB7o; have hs7 := hB7.size; clear ho7 hg7 hon7 hB7 hB7o hg7n)
                | (at_builtin; refine wpList_app rfl (.tmp 36) (.tmp 41) 22 22 rfl hE (Ho7.out.alloc _) rfl rfl (srcManyE Tryz.underlying22 _ [_, _, _] _ _ 3 _ (by simp) rfl (by simp [Value.oneCell'])) (by simp [maxLen]; omega) (by omega) ?_; intro ao8 cap8 g8 w8 ho8 hg8 hon8; have hB8 : Below wq.heap.size w7 w8 := ((ext_alloc w7 _).mono hs7).trans (hon8.below (by simp; omega) (fun j hj e => by have := Hg7.out j e; omega)); have hg8n : ∀ j, g8 = some j → wq.heap.size ≤ j := (fun j h => by rcases hg8 with e | e <;> rw [e] at h <;> first | exact Hg7.out j h | (have h := Option.some.inj h; first | omega | (simp at h; omega))); have Hg8 := Lib.hid hg8n; have Ho8 := Lib.hid ho8; have HB8 := Lib.hid (HB7.out.trans (hB8.mono hsW)); have hs8 := hB8.size; clear ho8 hg8 hon8 hB8 hg8n)
                | (at_builtin; refine wpList_app rfl (.tmp 43) (.tmp 46) 22 22 rfl hE Ho8.out rfl rfl (Hsrc2.out _ HB8.out _) (by simp [maxLen]; omega) (by first | omega | (simp; omega)) ?_; intro ao9 cap9 g9 w9 ho9 hg9 hon9; have hB9 : Below wq.heap.size w8 w9 := hon9.below (by omega) (fun j hj e => by have := Hg8.out j e; omega); have hg9n : ∀ j, g9 = some j → wq.heap.size ≤ j := (fun j h => by rcases hg9 with e | e <;> rw [e] at h <;> first | exact Hg8.out j h | (have h := Option.some.inj h; first | omega | (simp at h; omega))); have Hg9 := Lib.hid hg9n; have Ho9 := Lib.hid ho9; have HB9 := Lib.hid (HB8.out.trans (hB9.mono hsW)); clear ho9 hg9 hon9 hB9 hg9n))
              go_roundw
              case rel =>
                have ho9 := Ho9.out
                obtain ⟨b9, hgb, rfl, hb9⟩ := ho9.pos (by omega)
                have hcl := ho9.capLe
                have hlen : (sortR (l.take (k + 1))).length = k + 1 := by rw [sortR_len]; simp; omega
                have hsW := HBq.out.size
                refine ⟨k + 1, b9, cap9, by omega, by go_num, by congr 1; first | omega | (have := Hqke.out; omega), by first | omega | (have := Hqke.out; omega), hcl.2, ?_, HB.out.trans (HB9.out.mono HB.out.size)⟩
                rw [Hst.out]
                have hA1 := all2_mono (fp' := fun k => w.heap.size ≤ k) Hall1.out (fun b _ hl => HB9.out.block b hl) HB9.out.size (fun _ h => h)
                have hA2 := all2_mono (fp' := fun k => w.heap.size ≤ k) Hall2.out (fun b _ hl => HB9.out.block b hl) HB9.out.size (fun _ h => h)
                have hlr : (out.take q ++ [(x0, x1, x2)] ++ out.drop q).length = q + 1 + (k - q) := by have := Hkl.out; simp; first | omega | (have := Hqke.out; omega)
                have hJ : OwnS edgeRep (fun k => w.heap.size ≤ k) w9 (some ⟨b9, 0, none⟩) cap9 g9 48 (out.take q ++ [(x0, x1, x2)] ++ out.drop q) := ⟨css1 ++ [edgeCs (x0, x1, x2)] ++ css2, by rw [hlr]; simpa [edgeCs] using (show Own w9 (some ⟨b9, 0, none⟩) cap9 g9 48 edgeRep.size (q + 1 + (k - q)) _ from ho9), all2_append (all2_append hA1 (.cons (edgeRep_ok Hok.out) .nil)) hA2⟩
                exact hJ.rd.mono (fun b h _ => h.elim id (fun h => by have := Hg9.out b h; have := HB.out.size; omega))
              case measure => simp [intOf]; omega
    · obtain rfl : k = l.length := by omega
      have hlen := sortR_len l
      have e : sortR (l.take l.length) = sortR l := by rw [List.take_length]
      rw [e] at hO
      have HO := Lib.hid hO
      have HB := Lib.hid hB
      have Hl := Lib.hid hlen
      clear hO hB hlen e
      go_wp2_with fail
      go_ret
      exact ⟨_, cap', by simp [Hl.out], by rw [Hl.out]; exact hc1, hc2, HO.out, HB.out⟩
end Go.Proofs.YtcklfffeimnfeaaGreat

namespace Go.Proofs.YtcklfffeimnfeaaGreat
open Go.RowKit

def zeroW (l : List EdgeD) : Bool := l.any fun x => x.2.2 == 0
def ofM (l : List EdgeD) : List RowD × Nat := if zeroW l = true then ([], 9) else rrows (keysM (sortR l))
def ofI (l : List EdgeD) (w : World) (i : Value) (wr : World) : Prop := ∃ k : Nat, k ≤ l.length ∧ i = .int .i64 (k : Nat) ∧ zeroW (l.take k) = false ∧ Below w.heap.size w wr
theorem zeroW_take (l : List EdgeD) (k : Nat) (h : k < l.length) : zeroW (l.take (k + 1)) = (zeroW (l.take k) || l[k].2.2 == 0) := by
  unfold zeroW
  rw [List.take_succ_eq_append_getElem h, List.any_append]
  simp
theorem zeroW_at {l : List EdgeD} {k : Nat} (h : k < l.length) (e : l[k].2.2 = 0) : zeroW l = true := by
  unfold zeroW
  rw [List.any_eq_true]
  exact ⟨l[k], List.getElem_mem h, by simp [e]⟩
theorem RowsRet.lift {r : List RowD × Nat} {w W : World} (hB : Below w.heap.size w W) {e : Ending} {w' : World} (h : RowsRet r W e w') : RowsRet r w e w' := by
  obtain ⟨ao, cap, h1, h2, h3, h4, h5⟩ := h
  exact ⟨ao, cap, h1, h2, h3, h4.mono (fun b hb _ => Nat.le_trans hB.size hb), hB.trans (h5.mono hB.size)⟩

theorem rof15_any (l : List EdgeD) (ao : Option Addr) (cap : Nat) (fp : Nat → Prop) (w : World) (hl : l.length ≤ 100000) (hrd : RdS edgeRep fp w ao l) :
    Calls Tryz.prog 13 #[.slice ao l.length cap] w (RowsRet (ofM l) w) := by
  have HS := Lib.hid (fun W (h : Below w.heap.size w W) => rsorted_any l ao cap fp W hl (hrd.ext h))
  have Hrd := Lib.hid hrd
  clear hrd
  go_enter Tryz.func13, Tryz.ntmps13
  go_wp2_with fail
  go_loopw [7] (fun i wr => ofI l w i wr) (fun i _ => l.length - (intOf i).toNat)
  case atStart => exact ⟨0, by omega, rfl, rfl, Below.refl _ _⟩
  case round =>
    obtain ⟨k, hk, rfl, hz, hB⟩ := hrel
    rename World => wo
    have HB := Lib.hid hB
    by_cases hlt : k < l.length
    · obtain ⟨bb, off, rfl, hbb, _, _, hc2', hok⟩ := Hrd.out.edgeM k hlt
      have hc2 := ((bcell hB).1 _ _ hbb).trans hc2'
      have hir : (k : Int) < (l.length : Int) := by omega
      have hst := zeroW_take l k hlt
      rw [hz, Bool.false_or] at hst
      have hat := @zeroW_at l k hlt
      clear hc2' hB hz hok
      generalize l[k] = x at hc2 hst hat
      obtain ⟨x0, x1, x2⟩ := x
      simp only at hc2 hst hat
      by_cases h0 : x2 = 0
      · subst h0
        have hv := hat rfl
        have HF := Lib.hid (fun c => (show RowsRet (ofM l) w (.returned (.tuple #[.slice (some ⟨wo.heap.size, 0, none⟩) 0 c, .int .i64 9])) (wo.alloc (.cells #[] 114)) ∨ c ≠ 0 from by
          by_cases hc : c = 0
          · subst hc
            left
            unfold ofM
            rw [if_pos hv]
            exact ⟨_, 0, rfl, Nat.le_refl _, by simp [maxLen], .inl rfl, HB.out.alloc HB.out.size _⟩
          · exact .inr hc))
        clear hst hat hv
        go_wp2_with fail
        go_ret2
        exact (HF.out 0).resolve_right (by simp)
      · have e1 : (x2 == 0) = false := beq_eq_false_iff_ne.2 h0
        have e1' : ((x2 : Int) == 0) = false := beq_eq_false_iff_ne.2 (by omega)
        rw [e1] at hst
        have Hst := Lib.hid hst
        clear hst hat h0
        go_wp2_with fail
        exact ⟨⟨k + 1, by omega, by go_num, Hst.out, HB.out⟩, by simp [intOf]; omega⟩
    · obtain rfl : k = l.length := by omega
      rw [List.take_length] at hz
      have Hz := Lib.hid hz
      clear hz hB
      have hsl := sortR_len l
      have HKs := Lib.hid (fun (a : Option Addr) (c : Nat) (f : Nat → Prop) (W : World) (h : RdS edgeRep f W a (sortR l)) => rkeys_any (sortR l) a c f W (by omega) h)
      have HRw := Lib.hid (fun (a : Option Addr) (c : Nat) (W : World) (h : RdS (Rep.slice Rep.u8) (fun k => k < W.heap.size) W a (keysM (sortR l))) => rrows_any (keysM (sortR l)) a c W (by rw [keysM, List.length_map]; omega) h)
      have hof : ofM l = rrows (keysM (sortR l)) := by unfold ofM; rw [if_neg (by rw [Hz.out]; simp)]
      have Hof := Lib.hid hof
      clear hsl hof
      generalize sortR l = S at *
      generalize keysM S = K at *
      go_wp2_with (first
        | (go_at_call 28; (with_reducible refine (HS.out _ HB.out).mono ?_); rintro e w2 ⟨a1, c1, rfl, _, _, hr1, hB⟩; have R1 := Lib.hid hr1; have B2 := Lib.hid (HB.out.trans (hB.mono HB.out.size)); clear hB hr1)
        | (go_at_call 27; (with_reducible refine (HKs.out _ _ _ _ R1.out).mono ?_); rintro e w3 ⟨a2, c2, rfl, _, _, hr2, hB⟩; have R2 := Lib.hid (hr2.mono (fun b _ hl => hl)); have B3 := Lib.hid (B2.out.trans (hB.mono B2.out.size)); clear hB hr2)
        | (go_at_call 26; (with_reducible refine (HRw.out _ _ _ R2.out).mono ?_); rintro e w4 hh; obtain ⟨a3, c3, rfl, h3, h4, hr3, hB⟩ := hh.lift B3.out; have R3 := Lib.hid hr3; have B4 := Lib.hid hB; have L3 := Lib.hid (And.intro h3 h4); clear hB hr3 h3 h4 hh))
      go_ret2
      show RowsRet (ofM l) w _ _
      rw [Hof.out]
      exact ⟨a3, c3, rfl, L3.out.1, L3.out.2, R3.out, B4.out⟩

/-- a vertex's arcs -/
def arcs15M (rows : List RowD) (v : Nat) : List ArcD := match rows.find? (fun r => r.1 == v) with
  | some r => r.2
  | none => []
def ArcsOf (l : List ArcD) (fp : Nat → Prop) (w : World) (e : Ending) (w' : World) : Prop :=
  ∃ a c, e = .returned (.slice a l.length c) ∧ l.length ≤ c ∧ c ≤ maxLen ∧ RdS arcRep fp w' a l ∧ Below w.heap.size w w'
def arcs15I (rows : List RowD) (v : Nat) (w : World) (i : Value) (wr : World) : Prop := ∃ k : Nat, k ≤ rows.length ∧ i = .int .i64 (k : Nat) ∧ (rows.take k).find? (fun r => r.1 == v) = none ∧ Below w.heap.size w wr
theorem find_take {rows : List RowD} {v k : Nat} (h : k < rows.length) (hn : (rows.take k).find? (fun r => r.1 == v) = none) : (rows.take (k + 1)).find? (fun r => r.1 == v) = if rows[k].1 == v then some rows[k] else none := by
  rw [List.take_succ_eq_append_getElem h, List.find?_append, hn]
  simp [List.find?_cons]
  split <;> simp_all
theorem find_hit {rows : List RowD} {v k : Nat} (h : k < rows.length) (hn : (rows.take k).find? (fun r => r.1 == v) = none) (e : rows[k].1 = v) : arcs15M rows v = rows[k].2 := by
  have h1 := find_take h hn
  rw [if_pos (by simp [e])] at h1
  have h2 : rows.find? (fun r => r.1 == v) = some rows[k] := by
    generalize rows[k] = r at h1
    rw [← List.take_append_drop (k + 1) rows, List.find?_append, h1]
    rfl
  simp only [arcs15M, h2]
theorem arcs15_any (rows : List RowD) (v : Nat) (ao : Option Addr) (cap : Nat) (fp : Nat → Prop) (w : World) (hl : rows.length ≤ 1000000) (hrd : RdS rowRep fp w ao rows) :
    Calls Tryz.prog 72 #[.slice ao rows.length cap, .int .u32 (v : Nat)] w (ArcsOf (arcs15M rows v) fp w) := by
  have Hrd := Lib.hid hrd
  clear hrd
  go_enter Tryz.func72, Tryz.ntmps72
  go_wp2_with fail
  go_loopw [8] (fun i wr => arcs15I rows v w i wr) (fun i _ => rows.length - (intOf i).toNat)
  case atStart => exact ⟨0, by omega, rfl, rfl, Below.refl _ _⟩
  case round =>
    obtain ⟨k, hk, rfl, hn, hB⟩ := hrel
    rename World => wo
    have HB := Lib.hid hB
    by_cases hlt : k < rows.length
    · obtain ⟨bb, off, ra, rc, rfl, hbb, hc0', hc1', _, h2, h3, hr⟩ := Hrd.out.row k hlt
      have hc0 := ((bcell hB).1 _ _ hbb).trans hc0'
      have hc1 := ((bcell hB).1 _ _ hbb).trans hc1'
      have hir : (k : Int) < (rows.length : Int) := by omega
      have hft := find_take hlt hn
      have hhit := find_hit hlt hn
      have HR := Lib.hid (hr.ext hB)
      have HL := Lib.hid (And.intro h2 h3)
      clear hc0' hc1' hB hn hr h2 h3
      generalize rows[k] = r at hc0 hc1 hft hhit HR HL
      obtain ⟨r0, rl⟩ := r
      simp only at hc0 hc1 hft hhit HR HL
      by_cases h0 : r0 = v
      · have e1 : (r0 == v) = true := beq_iff_eq.2 h0
        have e1' : ((r0 : Int) == (v : Int)) = true := beq_iff_eq.2 (by omega)
        have Hh := Lib.hid (hhit h0)
        clear hft hhit h0
        go_wp2_with fail
        go_ret
        rw [Hh.out]
        exact ⟨ra, rc, rfl, HL.out.1, HL.out.2, HR.out, HB.out⟩
      · have e1 : (r0 == v) = false := beq_eq_false_iff_ne.2 h0
        have e1' : ((r0 : Int) == (v : Int)) = false := beq_eq_false_iff_ne.2 (by omega)
        rw [e1, if_neg (by simp)] at hft
        have Hft := Lib.hid hft
        clear hft hhit h0
        go_wp2_with fail
        exact ⟨⟨k + 1, by omega, by go_num, Hft.out, HB.out⟩, by simp [intOf]; omega⟩
    · obtain rfl : k = rows.length := by omega
      rw [List.take_length] at hn
      have Hn := Lib.hid hn
      clear hn hB
      have hv : arcs15M rows v = [] := by simp only [arcs15M, Hn.out]
      have Hv := Lib.hid hv
      clear hv
      go_wp2_with fail
      go_ret
      show ArcsOf (arcs15M rows v) fp w _ _
      rw [Hv.out]
      exact ⟨_, 0, rfl, Nat.le_refl _, by simp [maxLen], .inl rfl, HB.out.alloc HB.out.size _⟩
end Go.Proofs.YtcklfffeimnfeaaGreat

namespace Go.Proofs.YtcklfffeimnfeaaGreat
open Go.RowKit

def wt (l : List EdgeD) (f t : Nat) : Nat := (l.map (fun x => if x.1 = f ∧ x.2.1 = t then x.2.2 else 0)).sum
def outw (l : List EdgeD) (f : Nat) : Nat := (l.map (fun x => if x.1 = f then x.2.2 else 0)).sum
theorem wt_append (l m : List EdgeD) (f t : Nat) : wt (l ++ m) f t = wt l f t + wt m f t := by simp [wt]
theorem outw_append (l m : List EdgeD) (f : Nat) : outw (l ++ m) f = outw l f + outw m f := by simp [outw]
theorem wt_one (x : EdgeD) (f t : Nat) : wt [x] f t = if x.1 = f ∧ x.2.1 = t then x.2.2 else 0 := by simp [wt]
theorem outw_one (x : EdgeD) (f : Nat) : outw [x] f = if x.1 = f then x.2.2 else 0 := by simp [outw]
theorem wt_le_outw (l : List EdgeD) (f t : Nat) : wt l f t ≤ outw l f := by
  induction l with
  | nil => simp [wt, outw]
  | cons x l ih =>
    have h1 := wt_append [x] l f t
    have h2 := outw_append [x] l f
    rw [wt_one] at h1
    rw [outw_one] at h2
    simp only [List.singleton_append] at h1 h2
    rw [h1, h2]
    by_cases ha : x.1 = f
    · rw [if_pos ha]; split <;> omega
    · rw [if_neg ha, if_neg (fun h => ha h.1)]; omega
theorem wt_mem {l : List EdgeD} {f t : Nat} (h : 0 < wt l f t) : ∃ x ∈ l, x.1 = f ∧ x.2.1 = t := by
  induction l with
  | nil => simp [wt] at h
  | cons x l ih =>
    have h1 := wt_append [x] l f t
    rw [wt_one] at h1
    simp only [List.singleton_append] at h1
    by_cases ha : x.1 = f ∧ x.2.1 = t
    · exact ⟨x, by simp, ha⟩
    · rw [if_neg ha] at h1
      obtain ⟨y, hy, hy2⟩ := ih (by omega)
      exact ⟨y, by simp [hy], hy2⟩
theorem outw_mem {l : List EdgeD} {f : Nat} (h : 0 < outw l f) : ∃ x ∈ l, x.1 = f := by
  induction l with
  | nil => simp [outw] at h
  | cons x l ih =>
    have h1 := outw_append [x] l f
    rw [outw_one] at h1
    simp only [List.singleton_append] at h1
    by_cases ha : x.1 = f
    · exact ⟨x, by simp, ha⟩
    · rw [if_neg ha] at h1
      obtain ⟨y, hy, hy2⟩ := ih (by omega)
      exact ⟨y, by simp [hy], hy2⟩
def canonArcs (l : List ArcD) : Prop := l ≠ [] ∧ l.Pairwise (fun a b => a.1 < b.1) ∧ ∀ a ∈ l, 0 < a.2
def canonR (R : List RowD) : Prop := R.Pairwise (fun a b => a.1 < b.1) ∧ ∀ r ∈ R, canonArcs r.2
/-- the rows have each pair's weight -/
def reprR (R : List RowD) (W : Nat → Nat → Nat) : Prop := ∀ f t v, (∃ r ∈ R, r.1 = f ∧ (t, v) ∈ r.2) ↔ (v = W f t ∧ 0 < v)
/-- an edge behind what is there -/
def leE (x y : EdgeD) : Prop := x.1 < y.1 ∨ (x.1 = y.1 ∧ x.2.1 ≤ y.2.1)
def domR (R : List RowD) (x : EdgeD) : Prop := ∀ r ∈ R, r.1 < x.1 ∨ (r.1 = x.1 ∧ ∀ a ∈ r.2, a.1 ≤ x.2.1)
theorem domR.mono {R : List RowD} {x y : EdgeD} (h : domR R x) (hxy : leE x y) : domR R y := fun r hr => by
  rcases h r hr with h1 | ⟨h1, h2⟩
  · rcases hxy with h3 | ⟨h3, _⟩
    · exact .inl (by omega)
    · exact .inl (by omega)
  · rcases hxy with h3 | ⟨h3, h4⟩
    · exact .inl (by omega)
    · exact .inr ⟨by omega, fun a ha => Nat.le_trans (h2 a ha) h4⟩
theorem leE_of {x y : EdgeD} (h : belowE y x = false) : leE x y := by
  unfold belowE at h
  unfold leE
  by_cases h1 : y.1 = x.1
  · rw [if_pos h1] at h
    by_cases h2 : y.2.1 = x.2.1
    · exact .inr ⟨h1.symm, by omega⟩
    · rw [if_neg h2] at h
      have : ¬ y.2.1 < x.2.1 := by simpa using h
      exact .inr ⟨h1.symm, by omega⟩
  · rw [if_neg h1] at h
    have : ¬ y.1 < x.1 := by simpa using h
    exact .inl (by omega)
/-- the state behind the edges p -/
structure CanS (R : List RowD) (p : List EdgeD) : Prop where
  can : canonR R
  rep : reprR R (wt p)
  sums : ∀ r ∈ R, sumA r.2 = outw p r.1 ∧ sumA r.2 ≤ 2147483647
  all : ∀ x ∈ p, ∃ r ∈ R, r.1 = x.1
theorem CanS.nil : CanS [] [] := ⟨⟨.nil, by simp⟩, fun f t v => by simp [wt], by simp, by simp⟩
theorem CanS.build {A : List RowD} {p : List EdgeD} {x : EdgeD} {arcs : List ArcD} (hA1 : A.Pairwise (fun a b => a.1 < b.1)) (hA2 : ∀ r ∈ A, canonArcs r.2) (hlt : ∀ r ∈ A, r.1 < x.1)
    (hrep : ∀ f t v, f ≠ x.1 → ((∃ r ∈ A, r.1 = f ∧ (t, v) ∈ r.2) ↔ (v = wt p f t ∧ 0 < v))) (hsum : ∀ r ∈ A, sumA r.2 = outw p r.1 ∧ sumA r.2 ≤ 2147483647) (hall : ∀ y ∈ p, y.1 ≠ x.1 → ∃ r ∈ A, r.1 = y.1)
    (ha : canonArcs arcs) (hm : ∀ t v, (t, v) ∈ arcs ↔ (v = wt (p ++ [x]) x.1 t ∧ 0 < v)) (hs : sumA arcs = outw p x.1 + x.2.2) (hle : sumA arcs ≤ 2147483647) (hd : ∀ a ∈ arcs, a.1 ≤ x.2.1) :
    CanS (A ++ [(x.1, arcs)]) (p ++ [x]) ∧ domR (A ++ [(x.1, arcs)]) x := by
  refine ⟨⟨⟨?_, fun r hr => ?_⟩, fun f t v => ?_, fun r hr => ?_, fun y hy => ?_⟩, fun r hr => ?_⟩
  · rw [List.pairwise_append]
    exact ⟨hA1, by simp, fun a ha b hb => by rw [List.mem_singleton.1 hb]; exact hlt a ha⟩
  · rcases List.mem_append.1 hr with h | h
    · exact hA2 r h
    · rw [List.mem_singleton.1 h]; exact ha
  · by_cases hf : f = x.1
    · subst hf
      constructor
      · rintro ⟨r, hr, hrf, hrt⟩
        rcases List.mem_append.1 hr with h | h
        · have := hlt r h; omega
        · rw [List.mem_singleton.1 h] at hrt
          exact (hm t v).1 hrt
      · intro h
        exact ⟨(x.1, arcs), by simp, rfl, (hm t v).2 h⟩
    · have hw : wt (p ++ [x]) f t = wt p f t := by rw [wt_append, wt_one, if_neg (fun h => hf h.1.symm)]; rfl
      rw [hw, ← hrep f t v hf]
      constructor
      · rintro ⟨r, hr, hrf, hrt⟩
        rcases List.mem_append.1 hr with h | h
        · exact ⟨r, h, hrf, hrt⟩
        · rw [List.mem_singleton.1 h] at hrf
          exact absurd hrf.symm hf
      · rintro ⟨r, hr, hrf, hrt⟩
        exact ⟨r, List.mem_append.2 (.inl hr), hrf, hrt⟩
  · rw [outw_append, outw_one]
    rcases List.mem_append.1 hr with h | h
    · have := hlt r h
      rw [if_neg (by omega)]
      exact hsum r h
    · rw [List.mem_singleton.1 h, if_pos rfl]
      exact ⟨hs, hle⟩
  · rcases List.mem_append.1 hy with h | h
    · by_cases hf : y.1 = x.1
      · exact ⟨(x.1, arcs), by simp, hf.symm⟩
      · obtain ⟨r, hr, he⟩ := hall y h hf
        exact ⟨r, List.mem_append.2 (.inl hr), he⟩
    · rw [List.mem_singleton.1 h]; exact ⟨(x.1, arcs), by simp, rfl⟩
  · rcases List.mem_append.1 hr with h | h
    · exact .inl (hlt r h)
    · rw [List.mem_singleton.1 h]; exact .inr ⟨rfl, hd⟩
theorem CanS.new {R : List RowD} {p : List EdgeD} {x : EdgeD} (hs : CanS R p) (hx : x.2.2 ≠ 0) (hm : x.2.2 ≤ 2147483647) (hlt : ∀ r ∈ R, r.1 < x.1) : CanS (R ++ [(x.1, [(x.2.1, x.2.2)])]) (p ++ [x]) ∧ domR (R ++ [(x.1, [(x.2.1, x.2.2)])]) x := by
  have h0 : outw p x.1 = 0 := by
    rcases Nat.eq_zero_or_pos (outw p x.1) with h | h
    · exact h
    · obtain ⟨y, hy, hyf⟩ := outw_mem h
      obtain ⟨r, hr, hrf⟩ := hs.all y hy
      have := hlt r hr; omega
  refine CanS.build hs.can.1 hs.can.2 hlt (fun f t v _ => hs.rep f t v) hs.sums (fun y hy _ => hs.all y hy) ⟨by simp, by simp, fun a ha => by rw [List.mem_singleton.1 ha]; simp only; omega⟩ (fun t v => ?_) (by rw [sumA_one, h0]; simp) (by rw [sumA_one]; exact hm) (fun a ha => by rw [List.mem_singleton.1 ha]; exact Nat.le_refl _)
  have hw := wt_le_outw p x.1 t
  rw [wt_append, wt_one, List.mem_singleton, Prod.mk.injEq]
  constructor
  · rintro ⟨rfl, rfl⟩; rw [if_pos ⟨rfl, rfl⟩]; omega
  · rintro ⟨h1, h2⟩
    by_cases h : x.2.1 = t
    · rw [if_pos ⟨rfl, h⟩] at h1; exact ⟨h.symm, by omega⟩
    · rw [if_neg (fun e => h e.2)] at h1; omega
theorem CanS.step {R : List RowD} {p : List EdgeD} {x : EdgeD} (hs : CanS R p) (hd : domR R x) (hx : x.2.2 ≠ 0) (hm : hasR R x + x.2.2 ≤ 2147483647) : CanS (withR R x) (p ++ [x]) ∧ domR (withR R x) x := by
  rcases List.eq_nil_or_concat R with rfl | ⟨A, r, h⟩
  · exact hs.new hx (by omega) (by simp)
  · rw [List.concat_eq_append] at h
    subst h
    have hpw := List.pairwise_append.1 hs.can.1
    have hAr : ∀ q ∈ A, q.1 < r.1 := fun q hq => hpw.2.2 q hq r (by simp)
    rw [hasR_of] at hm
    unfold withR
    rw [List.getLast?_concat]
    simp only [List.dropLast_concat]
    by_cases h1 : r.1 = x.1
    · rw [if_pos h1] at hm ⊢
      have hcr := hs.can.2 r (by simp)
      have hdr : ∀ a ∈ r.2, a.1 ≤ x.2.1 := by
        rcases hd r (by simp) with h | h
        · omega
        · exact h.2
      have hsr := hs.sums r (by simp)
      have hmr : ∀ t v, (t, v) ∈ r.2 ↔ (v = wt p x.1 t ∧ 0 < v) := fun t v => by
        rw [← hs.rep x.1 t v]
        constructor
        · exact fun h => ⟨r, by simp, h1, h⟩
        · rintro ⟨q, hq, hqf, hqt⟩
          rcases List.mem_append.1 hq with h | h
          · have := hAr q h; omega
          · rw [List.mem_singleton.1 h] at hqt; exact hqt
      have hrepA : ∀ f t v, f ≠ x.1 → ((∃ r ∈ A, r.1 = f ∧ (t, v) ∈ r.2) ↔ (v = wt p f t ∧ 0 < v)) := fun f t v hf => by
        rw [← hs.rep f t v]
        constructor
        · rintro ⟨q, hq, h⟩; exact ⟨q, List.mem_append.2 (.inl hq), h⟩
        · rintro ⟨q, hq, hqf, hqt⟩
          rcases List.mem_append.1 hq with h | h
          · exact ⟨q, h, hqf, hqt⟩
          · rw [List.mem_singleton.1 h] at hqf; omega
      have hallA : ∀ y ∈ p, y.1 ≠ x.1 → ∃ r ∈ A, r.1 = y.1 := fun y hy hf => by
        obtain ⟨q, hq, he⟩ := hs.all y hy
        rcases List.mem_append.1 hq with h | h
        · exact ⟨q, h, he⟩
        · rw [List.mem_singleton.1 h] at he; omega
      have hsum : sumA (addArc r.2 x) = outw p x.1 + x.2.2 := by rw [addArc_sum, hsr.1, h1]
      refine CanS.build hpw.1 (fun q hq => hs.can.2 q (List.mem_append.2 (.inl hq))) (fun q hq => by have := hAr q hq; omega) hrepA (fun q hq => hs.sums q (List.mem_append.2 (.inl hq))) hallA ?_ (fun t v => ?_) hsum (by rw [addArc_sum]; omega) (fun a ha => ?_)
      all_goals
        obtain ⟨B, a', hB⟩ : ∃ B a', r.2 = B ++ [a'] := by
          rcases List.eq_nil_or_concat r.2 with h | ⟨B, a', h⟩
          · exact absurd h hcr.1
          · exact ⟨B, a', by rw [h, List.concat_eq_append]⟩
        rw [hB] at hcr hdr hmr
        have hpb := List.pairwise_append.1 hcr.2.1
        have hBa : ∀ b ∈ B, b.1 < a'.1 := fun b hb => hpb.2.2 b hb a' (by simp)
        have hda := hdr a' (by simp)
      · rw [hB, addArc_snoc]
        split
        · refine ⟨by simp, ?_, fun a ha => ?_⟩
          · rw [List.pairwise_append]
            exact ⟨hpb.1, by simp, fun b hb c hc => by rw [List.mem_singleton.1 hc]; exact hBa b hb⟩
          · rcases List.mem_append.1 ha with h | h
            · exact hcr.2.2 a (List.mem_append.2 (.inl h))
            · rw [List.mem_singleton.1 h]; simp only; omega
        · rename_i hne
          refine ⟨by simp, ?_, fun a ha => ?_⟩
          · rw [List.pairwise_append]
            refine ⟨hcr.2.1, by simp, fun b hb c hc => ?_⟩
            rw [List.mem_singleton.1 hc]
            simp only
            rcases List.mem_append.1 hb with h | h
            · have := hBa b h; omega
            · rw [List.mem_singleton.1 h]; omega
          · rcases List.mem_append.1 ha with h | h
            · exact hcr.2.2 a h
            · rw [List.mem_singleton.1 h]; simp only; omega
      · rw [hB, addArc_snoc, wt_append, wt_one]
        split
        · rename_i he
          constructor
          · intro h
            rcases List.mem_append.1 h with h | h
            · have hb := hBa _ h
              simp only at hb
              rw [if_neg (fun e => by omega)]
              exact (hmr t v).1 (List.mem_append.2 (.inl h))
            · rw [List.mem_singleton, Prod.mk.injEq] at h
              obtain ⟨rfl, rfl⟩ := h
              have h3 := (hmr a'.1 a'.2).1 (by simp)
              rw [if_pos ⟨rfl, he.symm⟩]
              omega
          · rintro ⟨h2, h3⟩
            by_cases ht : x.2.1 = t
            · rw [if_pos ⟨rfl, ht⟩] at h2
              have h4 := (hmr a'.1 a'.2).1 (by simp)
              rw [he, ht] at h4
              exact List.mem_append.2 (.inr (by rw [List.mem_singleton, Prod.mk.injEq]; exact ⟨by omega, by omega⟩))
            · rw [if_neg (fun e => ht e.2)] at h2
              have h4 := (hmr t v).2 ⟨by omega, h3⟩
              rcases List.mem_append.1 h4 with h | h
              · exact List.mem_append.2 (.inl h)
              · have h5 := List.mem_singleton.1 h
                have h6 : t = a'.1 := by rw [← h5]
                omega
        · rename_i hne
          have hz : wt p x.1 x.2.1 = 0 := by
            rcases Nat.eq_zero_or_pos (wt p x.1 x.2.1) with h | h
            · exact h
            · have h4 := (hmr x.2.1 _).2 ⟨rfl, h⟩
              rcases List.mem_append.1 h4 with h | h
              · have := hBa _ h; simp only at this; omega
              · have h5 := List.mem_singleton.1 h
                have h6 : x.2.1 = a'.1 := by rw [← h5]
                omega
          constructor
          · intro h
            rcases List.mem_append.1 h with h | h
            · have h4 := (hmr t v).1 h
              by_cases ht : x.2.1 = t
              · rw [← ht] at h4; omega
              · rw [if_neg (fun e => ht e.2)]; omega
            · rw [List.mem_singleton, Prod.mk.injEq] at h
              obtain ⟨rfl, rfl⟩ := h
              rw [if_pos ⟨rfl, rfl⟩]; omega
          · rintro ⟨h2, h3⟩
            by_cases ht : x.2.1 = t
            · rw [if_pos ⟨rfl, ht⟩, ← ht] at h2
              exact List.mem_append.2 (.inr (by rw [List.mem_singleton, Prod.mk.injEq]; exact ⟨ht.symm, by omega⟩))
            · rw [if_neg (fun e => ht e.2)] at h2
              exact List.mem_append.2 (.inl ((hmr t v).2 ⟨by omega, h3⟩))
      · rw [hB, addArc_snoc] at ha
        split at ha
        · rcases List.mem_append.1 ha with h | h
          · have := hBa _ h; omega
          · rw [List.mem_singleton.1 h]; exact hda
        · rcases List.mem_append.1 ha with h | h
          · exact hdr a h
          · rw [List.mem_singleton.1 h]; exact Nat.le_refl _
    · rw [if_neg h1] at hm ⊢
      have hlt : ∀ q ∈ A ++ [r], q.1 < x.1 := fun q hq => by
        rcases hd q hq with h | h
        · exact h
        · rcases List.mem_append.1 hq with h2 | h2
          · have h3 := hAr q h2
            rcases hd r (by simp) with h4 | h4
            · omega
            · exact absurd h4.1 h1
          · rw [List.mem_singleton.1 h2] at h; exact absurd h.1 h1
      exact hs.new hx (by omega) hlt
end Go.Proofs.YtcklfffeimnfeaaGreat
