/- The reference's Each: the best ones of each source. -/
import Derived.Test.YtggcmnjllkncaaaBestRef2
namespace Go.Proofs.Ytggcmnjllkncaaa
set_option linter.unusedSimpArgs false
set_option linter.unusedVariables false
set_option maxRecDepth 100000
open Go.RowKit

/-- the sources that are done: rising, the lowest ones -/
def DoneS (L : List VisD) (D : List Nat) : Prop := D.Pairwise (· < ·) ∧ (∀ s ∈ D, ∃ x ∈ L, x.1 = s) ∧ ∀ x ∈ L, x.1 ∈ D ∨ ∀ d ∈ D, d < x.1
def abvD (D : List Nat) (s : Nat) : Prop := ∀ d ∈ D, d < s
theorem abv_last {D : List Nat} (h : D.Pairwise (· < ·)) {n : Nat} (hn : D.length = n + 1) (s : Nat) : abvD D s ↔ D[n]'(by omega) < s := by
  constructor
  · intro h1; exact h1 _ (List.getElem_mem _)
  · intro h1 d hd
    obtain ⟨i, hi, rfl⟩ := List.mem_iff_getElem.1 hd
    rcases Nat.lt_or_ge i n with hl | hl
    · have := List.pairwise_iff_getElem.1 h i n hi (by omega) hl
      omega
    · obtain rfl : i = n := by omega
      exact h1
def LeastS (L : List VisD) (D : List Nat) (k least : Nat) : Prop :=
  least ≤ 4294967296 ∧ (least = 4294967296 ∨ (abvD D least ∧ ∃ x ∈ L, x.1 = least)) ∧ ∀ x ∈ L.take k, abvD D x.1 → least ≤ x.1
theorem DoneS.nil (L : List VisD) : DoneS L [] := ⟨.nil, fun s h => (by cases h), fun x _ => .inr (fun d h => by cases h)⟩
theorem DoneS.step {L : List VisD} {D : List Nat} {least : Nat} (h : DoneS L D) (hl : LeastS L D L.length least) (hne : least ≠ 4294967296) : DoneS L (D ++ [least]) := by
  obtain ⟨h1, h2, h3⟩ := h
  obtain ⟨_, h4, h5⟩ := hl
  obtain ⟨h6, x, hx, hxl⟩ := h4.resolve_left hne
  rw [List.take_length] at h5
  refine ⟨List.pairwise_append.2 ⟨h1, List.pairwise_singleton _ _, fun a ha b hb => by rw [List.mem_singleton.1 hb]; exact h6 a ha⟩, fun s hs => ?_, fun y hy => ?_⟩
  · rcases List.mem_append.1 hs with hs | hs
    · exact h2 s hs
    · rw [List.mem_singleton.1 hs]; exact ⟨x, hx, hxl⟩
  · rcases h3 y hy with h | h
    · exact .inl (List.mem_append_left _ h)
    · have := h5 y hy h
      rcases Nat.lt_or_ge least y.1 with hlt | hge
      · refine .inr (fun d hd => ?_)
        rcases List.mem_append.1 hd with hd | hd
        · exact h d hd
        · rw [List.mem_singleton.1 hd]; exact hlt
      · refine .inl (List.mem_append_right _ ?_)
        rw [List.mem_singleton]; omega
theorem DoneS.srcs {L : List VisD} {D : List Nat} (h : DoneS L D) (hl : LeastS L D L.length 4294967296) (hok : ∀ x ∈ L, x.1 < 4294967296) : SrcsR L D := by
  obtain ⟨h1, h2, h3⟩ := h
  refine ⟨h1, fun s => ⟨h2 s, fun ⟨x, hx, e⟩ => ?_⟩⟩
  subst e
  rcases h3 x hx with h | h
  · exact h
  · have := hl.2.2 x (by rw [List.take_length]; exact hx) h
    have := hok x hx
    omega
theorem DoneS.len {L : List VisD} {D : List Nat} (h : DoneS L D) : D.length ≤ L.length := by
  have := length_le_of (h.1.imp (fun {a b} hab => by omega : ∀ {a b : Nat}, a < b → a ≠ b)) (T := L.map (·.1)) (fun s hs => by
    obtain ⟨x, hx, e⟩ := h.2.1 s hs
    exact List.mem_map.2 ⟨x, hx, e⟩)
  simpa using this
theorem LeastS.start (L : List VisD) (D : List Nat) : LeastS L D 0 4294967296 := ⟨Nat.le_refl _, .inl rfl, fun x h => by simp at h⟩
theorem LeastS.keep {L : List VisD} {D : List Nat} {k least : Nat} (h : LeastS L D k least) (hk : k < L.length) (hn : ¬ (L[k].1 < least ∧ abvD D L[k].1)) : LeastS L D (k + 1) least := by
  refine ⟨h.1, h.2.1, fun x hx ha => ?_⟩
  rw [take_snoc hk] at hx
  rcases List.mem_append.1 hx with hx | hx
  · exact h.2.2 x hx ha
  · rw [List.mem_singleton] at hx
    subst hx
    rcases Nat.lt_or_ge L[k].1 least with hl | hl
    · exact absurd ⟨hl, ha⟩ hn
    · exact hl
theorem LeastS.turn {L : List VisD} {D : List Nat} {k least : Nat} (h : LeastS L D k least) (hk : k < L.length) (hlt : L[k].1 < least) (ha : abvD D L[k].1) : LeastS L D (k + 1) L[k].1 := by
  refine ⟨by have := h.1; omega, .inr ⟨ha, _, List.getElem_mem hk, rfl⟩, fun x hx ha2 => ?_⟩
  rw [take_snoc hk] at hx
  rcases List.mem_append.1 hx with hx | hx
  · have := h.2.2 x hx ha2; omega
  · rw [List.mem_singleton] at hx
    rw [hx]; exact Nat.le_refl _
def reachI (L : List VisD) (m : Nat) (w : World) (v5 v6 : Value) (wr : World) : Prop :=
  ∃ (D : List Nat) (acc : List VisD) (ao : Option Addr) (cap : Nat) (g : Option Nat) (a6 : Option Addr) (c6 : Nat) (g6 : Option Nat), DoneS L D ∧ v5 = .slice ao acc.length cap ∧ v6 = .slice a6 D.length c6 ∧ acc = eachV D L m ∧ acc.length ≤ D.length * 1000 ∧
    OwnS visRep (fun _ => False) wr ao cap g 31 acc ∧ (∀ q, g = some q → w.heap.size ≤ q) ∧ Own wr a6 c6 g6 23 1 D.length (u32s D) ∧ (∀ q, g6 = some q → w.heap.size ≤ q) ∧ (∀ q, g = some q → g6 ≠ some q) ∧ Below w.heap.size w wr
def leastI (L : List VisD) (D : List Nat) (wx : World) (v7 v20 : Value) (wr : World) : Prop := ∃ (k least : Nat), k ≤ L.length ∧ v20 = .int .i64 (k : Nat) ∧ v7 = .int .u64 (least : Nat) ∧ LeastS L D k least ∧ Below wx.heap.size wx wr
def ownI (L : List VisD) (s : Nat) (wx : World) (v9 v62 : Value) (wr : World) : Prop :=
  ∃ (k : Nat) (ao : Option Addr) (cap : Nat) (g : Option Nat), k ≤ L.length ∧ v62 = .int .i64 (k : Nat) ∧ v9 = .slice ao (ofSrc (L.take k) s).length cap ∧ OwnS visRep (fun _ => False) wr ao cap g 31 (ofSrc (L.take k) s) ∧ (∀ q, g = some q → wx.heap.size ≤ q) ∧ Below wx.heap.size wx wr
set_option maxRecDepth 100000 in
set_option maxHeartbeats 6400000 in
theorem reach_any (L : List VisD) (most : Int) (ao : Option Addr) (cap : Nat) (fp : Nat → Prop) (w : World) (hl : L.length ≤ 1000) (h0 : -9223372036854775808 ≤ most) (h1 : most ≤ 9223372036854775807) (hrd : RdS visRep fp w ao L) :
    Calls Try.prog 16 #[.slice ao L.length cap, .int .i64 most] w (EachRet L most.toNat w) := by
  have HL := Lib.hid hl
  have HR := Lib.hid hrd
  have H01 := Lib.hid (And.intro h0 h1)
  have hok : ∀ x ∈ L, okV x := fun x hx => by
    obtain ⟨k, hk, rfl⟩ := List.mem_iff_getElem.1 hx
    obtain ⟨_, _, _, _, _, _, _, _, h⟩ := hrd.vis k hk
    rwa [vat_get hk] at h
  have HOk := Lib.hid hok
  have hE := visElemS
  have hE2 := u32sElem
  obtain ⟨m, hm⟩ : ∃ m, most.toNat = m := ⟨_, rfl⟩
  have HM := Lib.hid hm
  rw [hm]
  obtain ⟨w1, hw1⟩ : ∃ w1, w1 = (w.alloc (.cells #[] 31)).alloc (.cells #[] 23) := ⟨_, rfl⟩
  have HB1 := Lib.hid (show Below w.heap.size w w1 by rw [hw1]; exact (ext_alloc w _).alloc (by simp) _)
  have HO1 := Lib.hid (show OwnS visRep (fun _ => False) w1 (some ⟨w.heap.size, 0, none⟩) 0 (some w.heap.size) 31 [] from ⟨[], by rw [hw1]; exact (Own.emptyAt w 31 3 w.heap.size rfl).ext (ext_alloc _ _), .nil⟩)
  have HD1 := Lib.hid (show Own w1 (some ⟨w.heap.size + 1, 0, none⟩) 0 (some (w.heap.size + 1)) 23 1 0 (u32s []) by rw [hw1]; exact Own.emptyAt _ 23 1 (w.heap.size + 1) (by simp))
  clear hl hrd hok h0 h1 hm
  go_enter Try.func16, Try.ntmps16
  go_wp2_with fail
  rw [← hw1]
  clear hw1
  go_loopw [5, 6, 7, 8, 9, 10] (fun v5 v6 _ _ _ _ wr => reachI L m w v5 v6 wr) (fun _ v6 _ _ _ _ _ => L.length + 1 - (match v6 with | .slice _ n _ => n | _ => 0))
  case atStart => exact ⟨[], [], _, _, _, _, _, _, DoneS.nil L, rfl, rfl, rfl, Nat.le_refl _, HO1.out, (fun q h => by cases h; exact Nat.le_refl _), HD1.out, (fun q h => by cases h; omega), (fun q h e => by have := Option.some.inj h; have := Option.some.inj e; omega), HB1.out⟩
  case round =>
    obtain ⟨D, acc, a5, c5, g5, a6, c6, g6, hD, rfl, rfl, hacc, hal, hO, hg5, hO6, hg6, hne, hB⟩ := hrel
    rename World => wo
    have HRo := Lib.hid (HR.out.ext hB)
    have hzB := hB.size
    have HB := Lib.hid hB
    have HO := Lib.hid hO
    have HO6 := Lib.hid hO6
    have HG5 := Lib.hid hg5
    have HG6 := Lib.hid hg6
    have HNe := Lib.hid hne
    have HD := Lib.hid hD
    have Hacc := Lib.hid hacc
    have hDl := hD.len
    have hDr : ((D.length : Int) ≤ (L.length : Int)) := by omega
    have hDr2 : decide ((D.length : Int) ≤ (L.length : Int)) = true := decide_eq_true hDr
    have hDr3 : decide (D.length ≤ L.length) = true := decide_eq_true hDl
    have hlb := HL.out
    clear hB hO hO6 hg5 hg6 hne hD hacc
    go_wp2_with fail
    go_loopw [7, 8, 20] (fun v7 _ v20 wr => leastI L D wo v7 v20 wr) (fun _ _ v20 _ => L.length - (intOf v20).toNat)
    case atStart => exact ⟨0, 4294967296, Nat.zero_le _, rfl, rfl, LeastS.start L D, Below.refl _ _⟩
    case round =>
      obtain ⟨wp, rfl⟩ : ∃ wp : World, wp = wr := ⟨_, rfl⟩
      obtain ⟨k, least, hk, rfl, rfl, hle, hBp⟩ := hrel
      have HLe := Lib.hid hle
      have HBp := Lib.hid hBp
      have hzp := hBp.size
      have hlb32 := hle.1
      clear hle hBp
      by_cases hlt : k < L.length
      · obtain ⟨b, off, rfl, _, hbl, x0, _, _, hx⟩ := (HRo.out.ext HBp.out).vis k hlt
        have hxs : vat L k = L[k] := vat_get hlt
        rw [hxs] at x0 hx
        have HX := Lib.hid hx
        have HKeep := Lib.hid (fun h => HLe.out.keep hlt h)
        have HTurn := Lib.hid (fun h1 h2 => HLe.out.turn hlt h1 h2)
        have hx1 := hx.1
        clear hxs hx
        generalize L[k].1 = s at *
        have hsw : IntKind.u64.wrap (s : Int) = (s : Int) := by simp [IntKind.wrap, IntKind.bits, IntKind.signed]; omega
        have hir : (k : Int) < (L.length : Int) := by omega
        by_cases hsl : s < least
        · have g1 : decide ((s : Int) < (least : Int)) = true := decide_eq_true (by omega)
          have g1' : decide (s < least) = true := decide_eq_true hsl
          cases hdn : D.length with
          | zero =>
            have g2 : ((D.length : Int) == 0) = true := by simp [hdn]
            obtain rfl := List.eq_nil_of_length_eq_zero hdn
            have HT := Lib.hid (HTurn.out hsl (fun d h => by cases h))
            clear hdn g2 HKeep HTurn
            go_wp2_with fail
            go_quiet (fail)
            go_wp2_with fail
            go_roundw
            case rel => exact ⟨k + 1, s, by omega, by go_num, by simp, HT.out, HBp.out.trans ((ext_drewN wp _).mono hzp)⟩
            case measure => simp [intOf]; omega
          | succ n =>
            rcases HO6.out.addr with ⟨_, _, h, _⟩ | ⟨b6, rfl, rfl, hb6⟩
            · omega
            have hc6 : wp.cell? ⟨b6, n, none⟩ = some (.int .u32 (D[n]'(by omega) : Nat)) := by
              rw [(bcell HBp.out).1 b6 n hb6, HO6.out.cell n (by omega)]
              simp [u32s, List.getElem?_map, List.getElem?_eq_getElem (show n < D.length by omega)]
            have habv := abv_last HD.out.1 hdn s
            generalize D[n]'(by omega) = d at hc6 habv
            have hDlx : n + 1 ≤ L.length := by rw [← hdn]; exact hDl
            have HN1 := Lib.hid hdn
            clear hDr hDr2 hDr3 hDl hal hdn
            obtain ⟨q, hq⟩ : ∃ q, n + 1 = q := ⟨_, rfl⟩
            rw [hq]
            have g2 : ((q : Int) == 0) = false := beq_eq_false_iff_ne.2 (by omega)
            have g2' : (q == 0) = false := beq_eq_false_iff_ne.2 (by omega)
            have g3 : (q : Int) - 1 = (n : Nat) := by omega
            have g5 : (n : Int) < (q : Int) := by omega
            clear hq
            by_cases hds : d < s
            · have g4 : decide ((d : Int) < (s : Int)) = true := decide_eq_true (by omega)
              have g4' : decide (d < s) = true := decide_eq_true hds
              have HT := Lib.hid (HTurn.out hsl (habv.2 hds))
              clear HKeep HTurn habv
              go_wp2_with fail
              go_quiet (fail)
              go_wp2_with fail
              go_roundw
              case rel => exact ⟨k + 1, s, by omega, by go_num, by simp, HT.out, HBp.out.trans ((ext_drewN wp _).mono hzp)⟩
              case measure => simp [intOf]; omega
            · have g4 : decide ((d : Int) < (s : Int)) = false := decide_eq_false (by omega)
              have g4' : decide (d < s) = false := decide_eq_false hds
              have HT := Lib.hid (HKeep.out (fun h => hds (habv.1 h.2)))
              clear HKeep HTurn habv
              go_wp2_with fail
              go_quiet (fail)
              go_wp2_with fail
              go_roundw
              case rel => exact ⟨k + 1, least, by omega, by go_num, rfl, HT.out, HBp.out.trans ((ext_drewN wp _).mono hzp)⟩
              case measure => simp [intOf]; omega
        · have g1 : decide ((s : Int) < (least : Int)) = false := decide_eq_false (by omega)
          have g1' : decide (s < least) = false := decide_eq_false hsl
          have HT := Lib.hid (HKeep.out (fun h => hsl h.1))
          clear HKeep HTurn
          go_wp2_with fail
          go_quiet (fail)
          go_wp2_with fail
          go_roundw
          case rel => exact ⟨k + 1, least, by omega, by go_num, rfl, HT.out, HBp.out.trans ((ext_drewN wp _).mono hzp)⟩
          case measure => simp [intOf]; omega
      · obtain rfl : k = L.length := by omega
        by_cases hend : least = 4294967296
        · subst hend
          have g1 : ((4294967296 : Nat) : Int) = 4294967296 := rfl
          have HSr := Lib.hid (HD.out.srcs HLe.out (fun x hx => (HOk.out x hx).1))
          go_wp2_with fail
          go_ret
          have hcl := HO.out.capLe
          refine ⟨D, HSr.out, a5, c5, by rw [← Hacc.out]; rfl, by rw [← Hacc.out]; exact hcl.1, hcl.2, ?_, HB.out.trans (HBp.out.mono hzB)⟩
          rw [← Hacc.out]
          exact (HO.out.ext HBp.out).rd.mono (fun q hq _ => by
            rcases hq with h | h
            · exact h.elim
            · exact HG5.out q h)
        · have g1 : ((least : Int) == 4294967296) = false := beq_eq_false_iff_ne.2 (by omega)
          have HEnd := Lib.hid hend
          clear hend
          have hlt32 : least < 4294967296 := by have := HEnd.out; omega
          have hlw : IntKind.u32.wrap (least : Int) = (least : Int) := by simp [IntKind.wrap, IntKind.bits, IntKind.signed]; omega
          obtain ⟨wx, hwx⟩ : ∃ wx, wx = wp.alloc (.cells #[] 31) := ⟨_, rfl⟩
          have HBx := Lib.hid (show Below wp.heap.size wp wx by rw [hwx]; exact ext_alloc wp _)
          have HOx := Lib.hid (show OwnS visRep (fun _ => False) wx (some ⟨wp.heap.size, 0, none⟩) 0 (some wp.heap.size) 31 [] from ⟨[], by rw [hwx]; exact Own.emptyAt wp 31 3 wp.heap.size rfl, .nil⟩)
          go_wp2_with fail
          rw [← hwx]
          clear hwx
          go_loopw [9, 10, 62] (fun v9 _ v62 wr => ownI L least wp v9 v62 wr) (fun _ _ v62 _ => L.length - (intOf v62).toNat)
          case atStart => exact ⟨0, _, 0, _, Nat.zero_le _, rfl, rfl, HOx.out, (fun q h => by cases h; exact Nat.le_refl _), HBx.out⟩
          case round =>
            obtain ⟨wq, rfl⟩ : ∃ wq : World, wq = wr := ⟨_, rfl⟩
            obtain ⟨k, a9, c9, g9, hk, rfl, rfl, hO9, hg9, hBq⟩ := hrel
            have HO9 := Lib.hid hO9
            have HG9 := Lib.hid hg9
            have HBq := Lib.hid hBq
            have hzq := hBq.size
            have hol : (ofSrc (L.take k) least).length ≤ 1000 := by have h1 := List.length_filter_le (fun x : VisD => x.1 == least) (L.take k); rw [List.length_take] at h1; unfold ofSrc; omega
            clear hO9 hg9 hBq
            by_cases hlt : k < L.length
            · obtain ⟨b, off, rfl, _, hbl, x0, x1, x2, hx⟩ := (HRo.out.ext (HBp.out.trans (HBq.out.mono hzp))).vis k hlt
              have hxs : vat L k = L[k] := vat_get hlt
              have HX := Lib.hid hx
              have HTk := Lib.hid (show ofSrc (L.take (k + 1)) least = if (vat L k).1 = least then ofSrc (L.take k) least ++ [vat L k] else ofSrc (L.take k) least by rw [take_snoc hlt, ofSrc_snoc, hxs])
              have hx1 := hx.1
              clear hxs hx
              generalize vat L k = x at *
              obtain ⟨s, v, c⟩ := x
              simp only at x0 x1 x2 HTk hx1
              have hsw : IntKind.u64.wrap (s : Int) = (s : Int) := by simp [IntKind.wrap, IntKind.bits, IntKind.signed]; omega
              have hir : (k : Int) < (L.length : Int) := by omega
              obtain ⟨n, hn⟩ : ∃ n, (ofSrc (L.take k) least).length = n := ⟨_, rfl⟩
              rw [hn] at hol ⊢
              have Hn := Lib.hid hn
              clear hn
              by_cases hsl : s = least
              · subst hsl
                have g2 : ((s : Int) == (s : Int)) = true := by simp
                obtain ⟨css, hown, hall⟩ := HO9.out.own
                have Hown9 := Lib.hid (show Own wq a9 c9 g9 31 3 n css.flatten by rw [← Hn.out]; exact hown)
                have Hall9 := Lib.hid hall
                clear hown hall
                go_wp2_with (at_builtin; refine wpList_app rfl (.tmp 73) (.tmp 78) 22 22 rfl hE (Hown9.out.ext (ext_alloc wq _)) rfl rfl (Src.ofSlice (wq.alloc (.cells #[.int .u32 (s : Nat), .int .u32 (v : Nat), .int .u64 (c : Nat)] 31)) Try.underlying22 ⟨wq.heap.size, 0, none⟩ 1 1 [.int .u32 (s : Nat), .int .u32 (v : Nat), .int .u64 (c : Nat)] rfl (fun j u hu => by rw [Addr.add_lit, Nat.zero_add, World.cell?_alloc_new]; simpa using hu) (by simp [Value.oneCell'])) (by simp [maxLen]; omega) (by omega) ?_; intro ao5 cap5 g5' w5 ho5 hg5 hon5; obtain ⟨hG5, hBB5⟩ := app_blocksM (w := wp) (W := wq.alloc (.cells #[.int .u32 (s : Nat), .int .u32 (v : Nat), .int .u64 (c : Nat)] 31)) HG9.out (HBq.out.alloc HBq.out.size _) hg5 hon5; have Ho5 := Lib.hid ho5; have HG5' := Lib.hid hG5; have HB5 := Lib.hid hBB5; clear ho5 hg5 hon5 hG5 hBB5)
                go_roundw
                case rel =>
                  have hT : ofSrc (L.take (k + 1)) s = ofSrc (L.take k) s ++ [(s, v, c)] := by rw [HTk.out, if_pos rfl]
                  have hTl : (ofSrc (L.take (k + 1)) s).length = n + 1 := by rw [hT, List.length_append, List.length_singleton, Hn.out]
                  refine ⟨k + 1, ao5, cap5, g5', by omega, by go_num, by rw [hTl], ?_, HG5'.out, HB5.out⟩
                  rw [hT]
                  refine ⟨css ++ [[Value.int .u32 (s : Nat), Value.int .u32 (v : Nat), Value.int .u64 (c : Nat)]], ?_, all2_append (vis_nofp Hall9.out _) (.cons (visRep_ok HX.out) .nil)⟩
                  have h : Own w5 ao5 cap5 g5' 31 3 (ofSrc (L.take k) s ++ [(s, v, c)]).length (css ++ [[Value.int .u32 (s : Nat), Value.int .u32 (v : Nat), Value.int .u64 (c : Nat)]]).flatten := by
                    rw [List.length_append, List.length_singleton, Hn.out]; simpa using Ho5.out
                  exact h
                case measure => simp [intOf]; omega
              · have g2 : ((s : Int) == (least : Int)) = false := beq_eq_false_iff_ne.2 (by omega)
                have HT := Lib.hid (show ofSrc (L.take (k + 1)) least = ofSrc (L.take k) least by rw [HTk.out, if_neg hsl])
                clear hsl
                go_wp2_with fail
                go_roundw
                case rel => exact ⟨k + 1, a9, c9, g9, by omega, by go_num, by rw [HT.out, Hn.out], by rw [HT.out]; exact HO9.out, HG9.out, HBq.out⟩
                case measure => simp [intOf]; omega
            · obtain rfl : k = L.length := by omega
              rw [List.take_length] at *
              have hos : ∀ x ∈ ofSrc L least, x.1 = least := fun x hx => by
                have := (List.mem_filter.1 hx).2
                simpa using this
              have hbe := rbest_any (ofSrc L least) least most a9 c9 _ wq hos hol HO9.out.capLe.1 HO9.out.capLe.2 H01.out.1 H01.out.2 HO9.out.rd
              rw [HM.out] at hbe
              have hrl : (bestL (ofSrc L least) m).length ≤ 1000 := by rw [bestL_len]; omega
              obtain ⟨R, hR⟩ : ∃ R, bestL (ofSrc L least) m = R := ⟨_, rfl⟩
              rw [hR] at hbe hrl
              have HRe := Lib.hid hR
              have HBw := Lib.hid (show Below wo.heap.size wo wq from HBp.out.trans (HBq.out.mono hzp))
              clear hR hos hlt hk
              obtain ⟨css, hown, hall⟩ := HO.out.own
              have Hown5 := Lib.hid (show Own wo a5 c5 g5 31 3 acc.length css.flatten from hown)
              have Hall5 := Lib.hid hall
              have halb : acc.length ≤ 1000000 := by have := Nat.mul_le_mul_right 1000 (show D.length ≤ 1000 by omega); omega
              clear hown hall
              have HU := Lib.hid hal
              clear hal
              generalize (ofSrc L least).length = no at *
              go_wp2_with (first
                | (go_at_call 11; refine hbe.mono ?_; rintro e w2 ⟨a2, c2, rfl, h22, h23, hrd2, hB2⟩; clear hbe; obtain ⟨css2, hall2, hsrc2⟩ := RdS.srcAll oneVis (tx := 22) Try.underlying22 hrd2; have HB2 := Lib.hid (HBw.out.trans (hB2.mono HBw.out.size)); have HA2 := Lib.hid hall2; have HS2 := Lib.hid (hsrc2 w2 (Below.refl _ _) c2); clear hrd2 hB2 hall2 hsrc2 h22 h23)
                | (at_builtin; refine wpList_app rfl (.tmp 81) (.tmp 84) 22 22 rfl hE (Hown5.out.ext HB2.out) rfl rfl HS2.out (by simp [maxLen]; omega) (by omega) ?_; intro ao4 cap4 g4 w4 ho4 hg4 hon4; have Ho4 := Lib.hid ho4; have Hg4 := Lib.hid hg4; have Hon4 := Lib.hid hon4; have HO64 := Lib.hid ((HO6.out.ext HB2.out).keep (fun b hb => hon4.same b (Nat.lt_of_lt_of_le (HO6.out.lt b hb) HB2.out.size) (fun e => HNe.out b e hb))); clear ho4 hg4 hon4)
                | (at_builtin; refine wpList_app rfl (.tmp 86) (.tmp 89) 50 50 rfl hE2 (HO64.out.ext (ext_alloc w4 _)) rfl rfl (Src.ofSlice (w4.alloc (.cells #[.int .u32 (least : Nat)] 23)) Try.underlying50 ⟨w4.heap.size, 0, none⟩ 1 1 [.int .u32 (least : Nat)] rfl (fun j u hu => by rw [Addr.add_lit, Nat.zero_add, World.cell?_alloc_new]; simpa using hu) (by simp [Value.oneCell'])) (by simp [maxLen]; omega) (by omega) ?_; intro ao6 cap6 g6' w6 ho6 hg6' hon6; have Ho6 := Lib.hid ho6; have Hg6 := Lib.hid hg6'; have Hon6 := Lib.hid hon6; clear ho6 hg6' hon6))
              go_roundw
              case rel =>
                have hz2 := HB2.out.size
                have hz4 := Hon4.out.size
                have hza : (w4.alloc (.cells #[.int .u32 (least : Nat)] 23)).heap.size = w4.heap.size + 1 := by simp
                have hg5l := HO.out.lt
                have hg6l := HO6.out.lt
                have hO4 : OwnS visRep (fun _ => False) w4 ao4 cap4 g4 31 (acc ++ R) := by
                  refine ⟨css ++ css2, ?_, all2_append (vis_nofp Hall5.out _) (vis_nofp HA2.out _)⟩
                  have h : Own w4 ao4 cap4 g4 31 3 (acc ++ R).length (css ++ css2).flatten := by simpa using Ho4.out
                  exact h
                have hO4l := hO4.lt
                have hg4n : ∀ q, g4 = some q → g6 ≠ some q := fun q hq e => by
                  rcases Hg4.out with h | h
                  · exact HNe.out q (by rw [← h]; exact hq) e
                  · rw [h] at hq; cases hq; have := hg6l _ e; omega
                refine ⟨D ++ [least], acc ++ R, ao4, cap4, g4, ao6, cap6, g6', HD.out.step HLe.out HEnd.out, by simp, by simp, ?_, ?_, ?_, ?_, ?_, ?_, ?_, ?_⟩
                · rw [Hacc.out]
                  unfold eachV
                  rw [List.flatMap_append, ← HRe.out]
                  simp
                · have := HU.out
                  simp only [List.length_append, List.length_singleton]
                  omega
                · refine (hO4.ext (ext_alloc w4 _)).keep (fun b hb hl => Hon6.out.same b hl (fun e => ?_)) Hon6.out.size
                  rcases hb with h | h
                  · exact h
                  · exact hg4n b h e
                · intro q hq
                  rcases Hg4.out with h | h
                  · exact HG5.out q (by rw [← h]; exact hq)
                  · rw [h] at hq; cases hq; omega
                · simpa [u32s] using Ho6.out
                · intro q hq
                  rcases Hg6.out with h | h
                  · exact HG6.out q (by rw [← h]; exact hq)
                  · rw [h] at hq; cases hq; omega
                · intro q hq e
                  rcases Hg6.out with h | h
                  · exact hg4n q hq (by rw [← h]; exact e)
                  · have := hO4l q hq
                    rw [h] at e; cases e; omega
                · refine HB.out.trans ((HB2.out.mono hzB).trans ((Hon4.out.below (by omega) (fun q hq e => by have := HG5.out q e; omega)).trans (((ext_alloc w4 _).mono (by omega)).trans (Hon6.out.below (by omega) (fun q hq e => by have := HG6.out q e; omega)))))
              case measure =>
                simp
                omega
end Go.Proofs.Ytggcmnjllkncaaa
