/- The law's visits of one source; awake. -/
import Derived.Test.YtggcmnjllkncaaaBestRef3
import Derived.Test.YtggcmnjllkncaaaLaw
namespace Go.Proofs.Ytggcmnjllkncaaa
set_option linter.unusedSimpArgs false
set_option linter.unusedVariables false
set_option maxRecDepth 100000
open Go.RowKit

def toSrc (s : Nat) (x : VisD) : VisD := (s, x.2)
def ofL (l : List VisD) (s : Nat) : List VisD := l.map (toSrc s)
def mixL (l : List VisD) (s k : Nat) : List VisD := (l.take k).map (toSrc s) ++ l.drop k
def catV (l : List VisD) : List Value := (l.map visCs).flatten
theorem mixL_len (l : List VisD) (s k : Nat) : (mixL l s k).length = l.length := by simp [mixL]; omega
theorem mixL_next {l : List VisD} {s k : Nat} (h : k < l.length) : mixL l s (k + 1) = (mixL l s k).set k (toSrc s l[k]) := by
  unfold mixL
  have e : (l.drop k).set 0 (toSrc s l[k]) = toSrc s l[k] :: l.drop (k + 1) := by rw [List.drop_eq_getElem_cons h]; rfl
  rw [take_snoc h, List.map_append, List.set_append_right _ _ (by simp; omega)]
  have e2 : k - ((l.take k).map (toSrc s)).length = 0 := by simp; omega
  rw [e2, e]
  simp
theorem mixL_get {l : List VisD} {s k : Nat} (h : k < l.length) : (mixL l s k)[k]? = some l[k] := by
  unfold mixL
  rw [List.getElem?_append_right (by simp; omega)]
  simp [List.length_take, Nat.min_eq_left (Nat.le_of_lt h), h]
theorem catV_set : ∀ (M : List VisD) (k s : Nat) (x : VisD), M[k]? = some x → (catV M).set (k * 3) (.int .u32 (s : Nat)) = catV (M.set k (toSrc s x))
  | [], k, s, x, h => by simp at h
  | y :: M, 0, s, x, h => by
    simp only [List.getElem?_cons_zero, Option.some.injEq] at h
    subst h
    simp [catV, visCs, toSrc]
  | y :: M, k + 1, s, x, h => by
    rw [List.getElem?_cons_succ] at h
    have ih := catV_set M k s x h
    simp only [catV, List.map_cons, List.flatten_cons, List.set_cons_succ] at ih ⊢
    rw [← ih, visCs, show (k + 1) * 3 = k * 3 + 1 + 1 + 1 by omega]
    simp
theorem all2_vis {W : World} {fp : Nat → Prop} : ∀ {M : List VisD}, (∀ x ∈ M, okV x) → All2 (fun x cs => visRep.ok W fp x cs) M (M.map visCs)
  | [], _ => .nil
  | x :: M, h => .cons (visRep_ok (h x (by simp))) (all2_vis (fun y hy => h y (by simp [hy])))
theorem ofL_ok {l : List VisD} {s : Nat} (h : ∀ x ∈ l, okV x) (hs : s < 4294967296) : ∀ x ∈ ofL l s, okV x := fun x hx => by
  obtain ⟨y, hy, rfl⟩ := List.mem_map.1 hx
  exact ⟨hs, (h y hy).2.1, (h y hy).2.2⟩
def ofI (l : List VisD) (s a c : Nat) (w : World) (v6 : Value) (wr : World) : Prop :=
  ∃ k, k ≤ l.length ∧ v6 = .int .i64 (k : Nat) ∧ Own wr (some ⟨a, 0, none⟩) c (some a) 31 3 l.length (catV (mixL l s k)) ∧ Below w.heap.size w wr
set_option maxRecDepth 100000 in
set_option maxHeartbeats 3200000 in
theorem of_any (l : List VisD) (s : Nat) (ao : Option Addr) (cap : Nat) (fp : Nat → Prop) (w : World) (hl : l.length ≤ 1000) (hs : s < 4294967296) (hrd : RdS visRep fp w ao l) :
    Calls Try.prog 8 #[.slice ao l.length cap, .int .u32 (s : Nat)] w (OwnVis (ofL l s) w) := by
  have hE := visElemS
  obtain ⟨css, hall, hsrc⟩ := RdS.srcAll oneVis (tx := 22) Try.underlying22 hrd
  obtain ⟨hcs, hok⟩ := vis_css hall
  subst hcs
  have HOk := Lib.hid hok
  have Hsrc := Lib.hid hsrc
  have HLn := Lib.hid (show (ofL l s).length = l.length by simp [ofL])
  have HL := Lib.hid hl
  obtain ⟨n, hn⟩ : ∃ n, l.length = n := ⟨_, rfl⟩
  have Hn := Lib.hid hn
  rw [hn] at Hsrc hl ⊢
  clear hall hsrc hok hrd hn
  go_enter Try.func8, Try.ntmps8
  go_wp2_with (at_builtin; refine wpList_app rfl (.tmp 7) (.tmp 8) 22 22 rfl hE (Own.emptyAt w 31 3 w.heap.size rfl) rfl rfl (Hsrc.out _ (ext_alloc w _) cap) (by simp [maxLen]; omega) (by omega) ?_; intro ao4 cap4 g4 w4 ho4 hg4 hon4; obtain ⟨hG4, hB4⟩ := app_blocksM (w := w) (W := w.alloc (.cells #[] 31)) (fun k h => by cases h; exact Nat.le_refl _) (ext_alloc w _) hg4 hon4; rw [Nat.zero_add, List.nil_append] at ho4; try rw [Nat.zero_add]; have Ho4 := Lib.hid ho4; have HG4 := Lib.hid hG4; have HB4 := Lib.hid hB4; clear ho4 hg4 hon4 hG4 hB4)
  by_cases h0 : n = 0
  · subst h0
    refine wp_loop_rounds 1 ?_
    rw [rounds_succ]
    go_wp2_with fail
    go_ret
    have hl0 : l = [] := List.eq_nil_of_length_eq_zero Hn.out
    subst hl0
    exact ⟨ao4, cap4, g4, rfl, ⟨[], Ho4.out, .nil⟩, HG4.out, HB4.out⟩
  · rcases Ho4.out.addr with ⟨_, _, h, _⟩ | ⟨a, rfl, rfl, ha⟩
    · exact absurd h h0
    have hage := HG4.out a rfl
    go_loopw [6] (fun v6 wr => ofI l s a cap4 w v6 wr) (fun v6 _ => l.length - (intOf v6).toNat)
    case atStart => exact ⟨0, Nat.zero_le _, rfl, by rw [Hn.out]; exact Ho4.out, HB4.out⟩
    case round =>
      obtain ⟨k, hk, rfl, hown, hB⟩ := hrel
      rename World => wo
      have hal := hown.lt a rfl
      have Hown := Lib.hid hown
      have HB := Lib.hid hB
      have HK := Lib.hid hk
      have hkn : k ≤ n := by have := Hn.out; omega
      by_cases hlt : k < n
      · have hkl : k < l.length := by have := Hn.out; omega
        have hc : ∃ u, wo.cell? ⟨a, k * 3, none⟩ = some u := by
          rw [hown.cell (k * 3) (by omega)]
          have := hown.len
          exact ⟨_, List.getElem?_eq_getElem (by rw [this]; omega)⟩
        obtain ⟨u, hc⟩ := hc
        have hf := hown.frozen (k * 3)
        have hir : (k : Int) < (n : Int) := by omega
        have Hkl := Lib.hid hkl
        clear hown hB hk hkl
        go_wp2_with fail
        go_roundw
        case rel =>
          refine ⟨k + 1, Hkl.out, by go_num, ?_, HB.out.trans ((Only.refl (fun q => q = a) wo).setCell (fun _ => rfl) _ |>.below HB.out.size (fun q hq e => by omega))⟩
          have h := Hown.out.setCellAt (k * 3) (.int .u32 (s : Nat))
          rwa [catV_set _ k s _ (mixL_get Hkl.out), ← mixL_next Hkl.out] at h
        case measure => have := Hkl.out; simp [intOf]; omega
      · have hkn' : k = n := by omega
        subst hkn'
        clear hown hB hk
        go_wp2_with fail
        go_ret
        have hm : mixL l s l.length = ofL l s := by simp [mixL, ofL]
        have h := Hown.out
        rw [← Hn.out, hm] at h
        refine ⟨_, cap4, some a, by rw [HLn.out, Hn.out]; rfl, ⟨(ofL l s).map visCs, ?_, all2_vis (ofL_ok HOk.out hs)⟩, HG4.out, HB.out⟩
        have h2 : Own wo (some ⟨a, 0, none⟩) cap4 (some a) 31 3 (ofL l s).length ((ofL l s).map visCs).flatten := by rw [HLn.out]; exact h
        exact h2
set_option maxRecDepth 100000 in
set_option maxHeartbeats 3200000 in
theorem awake29_any (w : World) : Calls Try.prog 7 #[] w (RetB (.bool true) w) := by
  have hEa := each_any [(0, 3, 5), (0, 1, 5), (0, 2, 9)] 2 (some ⟨w.heap.size, 0, none⟩) 3 (fun b => False ∨ b = w.heap.size) (w.alloc (.cells #[.int .u32 0, .int .u32 3, .int .u64 5, .int .u32 0, .int .u32 1, .int .u64 5, .int .u32 0, .int .u32 2, .int .u64 9] 31)) (by simp) (by omega) (by omega)
    (RdS.new (R := visRep) (fp := fun _ => False) (css := [visCs (0, 3, 5), visCs (0, 1, 5), visCs (0, 2, 9)]) (.cons (visRep_ok (by unfold okV; decide)) (.cons (visRep_ok (by unfold okV; decide)) (.cons (visRep_ok (by unfold okV; decide)) .nil))) rfl w.heap.size rfl)
  have hx : ∀ W, (binOp .eql 31 (.agg #[.int .u32 0, .int .u32 2, .int .u64 9]) (.agg #[.int .u32 0, .int .u32 2, .int .u64 9])).run Try.prog W = .ok (.bool true) W := fun W => eql_visit (0, 2, 9) (0, 2, 9) W
  have hy : ∀ W, (binOp .eql 31 (.agg #[.int .u32 0, .int .u32 1, .int .u64 5]) (.agg #[.int .u32 0, .int .u32 1, .int .u64 5])).run Try.prog W = .ok (.bool true) W := fun W => eql_visit (0, 1, 5) (0, 1, 5) W
  simp only [List.length_cons, List.length_nil, Nat.reduceAdd] at hEa
  have HEa := Lib.hid (hEa.mono (R' := fun e w2 => ∃ b off c, e = .returned (.slice (some ⟨b, off, none⟩) 2 c) ∧ (w2.cell? ⟨b, off, none⟩ = some (.int .u32 0) ∧ w2.cell? ⟨b, off + 1, none⟩ = some (.int .u32 2) ∧ w2.cell? ⟨b, off + 2, none⟩ = some (.int .u64 9)) ∧ (w2.cell? ⟨b, off + 3, none⟩ = some (.int .u32 0) ∧ w2.cell? ⟨b, off + 3 + 1, none⟩ = some (.int .u32 1) ∧ w2.cell? ⟨b, off + 3 + 2, none⟩ = some (.int .u64 5)) ∧ Below w.heap.size w w2) (by
    rintro e w2 ⟨S, hS, a, c, rfl, h1, h2, hrd, hB⟩
    obtain rfl := hS.one (T := [0]) ⟨List.pairwise_singleton _ _, fun s => by simp; omega⟩
    have hv : eachV [0] [(0, 3, 5), (0, 1, 5), (0, 2, 9)] (Int.toNat 2) = [(0, 2, 9), (0, 1, 5)] := by decide
    rw [hv] at hrd ⊢
    obtain ⟨b, off, rfl, _, hbl, y0, y1, y2, _⟩ := hrd.vis 0 (by decide)
    obtain ⟨b', off', hab, _, _, z0, z1, z2, _⟩ := hrd.vis 1 (by decide)
    cases hab
    exact ⟨b, off, c, rfl, ⟨y0, y1, y2⟩, ⟨z0, z1, z2⟩, (ext_alloc w _).trans (hB.mono (by simp))⟩))
  clear hEa
  go_enter Try.func7, Try.ntmps7
  go_wp2_with (go_at_call 15; refine HEa.out.mono ?_; rintro e w2 ⟨b, off, c, rfl, ⟨y0, y1, y2⟩, ⟨z0, z1, z2⟩, hB⟩; have HB := Lib.hid hB; clear hB)
  go_ret
  exact ⟨rfl, HB.out⟩
end Go.Proofs.Ytggcmnjllkncaaa
