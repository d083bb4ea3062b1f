/- Texts merged into one: GraphRefs, EndsRows, WlkLaw, WlkRows, JobOpen. -/
import Derived.Test.YtcklfffeimnfeaaGreatBx19
import Derived.Test.YtcklfffeimnfeaaGreatBx05
import Derived.Test.YtcklfffeimnfeaaGreatBx13
import Derived.Test.YtcklfffeimnfeaaGreatBx21
import Derived.Test.YtcklfffeimnfeaaGreatBx06
import Derived.Test.YtcklfffeimnfeaaGreatBx12
set_option maxRecDepth 100000
set_option maxHeartbeats 12800000
set_option linter.unusedSimpArgs false
set_option linter.unusedVariables false
namespace Go.Proofs.YtcklfffeimnfeaaGreat
open Go.RowKit

theorem Rd.u32 {w : World} {ao : Option Addr} {l : List Nat} (h : Rd w ao l.length (u32s l)) (k : Nat) (hk : k < l.length) : ∃ b off, ao = some ⟨b, off, none⟩ ∧ b < w.heap.size ∧ w.cell? ⟨b, off + k, none⟩ = some (.int .u32 (l[k] : Nat)) := by
  obtain ⟨b, off, e, hb, hc⟩ := h.pos (by omega)
  refine ⟨b, off, e, hb, ?_⟩
  rw [hc k hk]
  simp [u32s, List.getElem?_map, List.getElem?_eq_getElem hk]
theorem vsame15_any (l : List Nat) (ao bo : Option Addr) (ca cb : Nat) (w : World) (hl : l.length ≤ 1073741824) (ha : Rd w ao l.length (u32s l)) (hb : Rd w bo l.length (u32s l)) :
    Calls Tryz.prog 15 #[.slice ao l.length ca, .slice bo l.length cb] w fun e w' => e = .returned (.bool true) ∧ ∃ m, w' = w.drewN m := by
  have hne : ((l.length : Int) != (l.length : Int)) = false := by simp
  have Ha := Lib.hid ha
  have Hb := Lib.hid hb
  clear ha hb
  go_enter Tryz.func15, Tryz.ntmps15
  go_wp2_with fail
  go_loopw [5, 13] (fun v i wr => sameQ l.length w i wr) (fun _ i _ => l.length - (intOf i).toNat)
  case atStart => exact ⟨0, 0, by omega, rfl, rfl⟩
  case round =>
    obtain ⟨k, m, hk, rfl, rfl⟩ := hrel
    by_cases hlt : k < l.length
    · obtain ⟨ba, oa, rfl, hba, hca⟩ := Ha.out.u32 k hlt
      obtain ⟨bb, ob, rfl, hbb, hcb⟩ := Hb.out.u32 k hlt
      have hir : (k : Int) < (l.length : Int) := by omega
      generalize l[k] = x at hca hcb
      have hx : ((x : Int) != x) = false := by simp
      go_wp2_with fail
      go_quiet (fail)
      go_wp2_with fail
      go_roundw
      case rel => exact ⟨k + 1, _, by omega, by go_num, rfl⟩
      case measure => simp [intOf]; omega
    · obtain rfl : k = l.length := by omega
      go_wp2_with fail
      go_ret
      exact ⟨rfl, _, rfl⟩

theorem nearM_take (l : List ArcD) (tv k : Nat) (h : k < l.length) : nearM (l.take (k + 1)) tv = (nearM (l.take k) tv || l[k].1 == tv) := by
  unfold nearM
  rw [List.take_succ_eq_append_getElem h, List.any_append]
  simp
theorem nearM_hit {l : List ArcD} {tv k : Nat} (h : k < l.length) (e : l[k].1 = tv) : nearM l tv = true := by
  unfold nearM
  rw [List.any_eq_true]
  exact ⟨l[k], List.getElem_mem h, by simp [e]⟩
def nearI (l : List ArcD) (tv : Nat) (w : World) (i : Value) (wr : World) : Prop := ∃ k : Nat, k ≤ l.length ∧ i = .int .i64 (k : Nat) ∧ nearM (l.take k) tv = false ∧ Below w.heap.size w wr
theorem rnear15_any (R : List RowD) (v tv : Nat) (ao : Option Addr) (cap : Nat) (fp : Nat → Prop) (w : World) (hl : R.length ≤ 100000) (ha : ∀ r ∈ R, r.2.length ≤ 100000) (hrd : RdS rowRep fp w ao R) :
    Calls Tryz.prog 122 #[.slice ao R.length cap, .int .u32 (v : Nat), .int .u32 (tv : Nat)] w (RetB (.bool (near15M R v tv)) w) := by
  have HAr := Lib.hid (arcs15_any R v ao cap fp w (by omega) hrd)
  have hal : (arcs15M R v).length ≤ 100000 := by
    rcases arcs15_mem (R := R) (v := v) with h | ⟨r, hr, _, h⟩
    · rw [h]; simp
    · rw [h]; exact ha r hr
  unfold near15M
  generalize arcs15M R v = l at *
  clear hrd ha
  go_enter Tryz.func122, Tryz.ntmps122
  go_upto_region 2 with (go_at_call 72; (with_reducible refine HAr.out.mono ?_); rintro e w2 ⟨a, c, rfl, _, _, h3, h4⟩; have H3 := Lib.hid h3; have H4 := Lib.hid h4; clear h3 h4)
  go_wp2_with fail
  go_loopw [14] (fun i wr => nearI l tv w2 i wr) (fun i _ => l.length - (intOf i).toNat)
  case atStart => exact ⟨0, by omega, rfl, rfl, Below.refl _ _⟩
  case round =>
    obtain ⟨k, hk, rfl, hn, hB⟩ := hrel
    rename World => wo
    have HB := Lib.hid hB
    by_cases hlt : k < l.length
    · obtain ⟨bb, off, rfl, hbb, hc0', _, _⟩ := H3.out.arc k hlt
      have hc0 := ((bcell hB).1 _ _ hbb).trans hc0'
      have hir : (k : Int) < (l.length : Int) := by omega
      have hst := nearM_take l tv k hlt
      rw [hn, Bool.false_or] at hst
      have hhit := @nearM_hit l tv k hlt
      clear hc0' hB hn
      generalize l[k] = x at hc0 hst hhit
      obtain ⟨x0, x1⟩ := x
      simp only at hc0 hst hhit
      by_cases h0 : x0 = tv
      · have e1 : (x0 == tv) = true := beq_iff_eq.2 h0
        have e1' : ((x0 : Int) == (tv : Int)) = true := beq_iff_eq.2 (by omega)
        have Hh := Lib.hid (hhit h0)
        clear hst hhit h0
        go_wp2_with fail
        go_ret
        exact ⟨by rw [Hh.out]; rfl, H4.out.trans (HB.out.mono H4.out.size)⟩
      · have e1 : (x0 == tv) = false := beq_eq_false_iff_ne.2 h0
        have e1' : ((x0 : Int) == (tv : Int)) = false := beq_eq_false_iff_ne.2 (by omega)
        rw [e1] at hst
        have Hst := Lib.hid hst
        clear hst hhit h0
        go_wp2_with fail
        go_roundw
        case rel => exact ⟨k + 1, by omega, by go_num, Hst.out, HB.out⟩
        case measure => simp [intOf]; omega
    · obtain rfl : k = l.length := by omega
      rw [List.take_length] at hn
      have Hn := Lib.hid hn
      clear hn hB
      go_wp2_with fail
      go_ret
      exact ⟨by rw [Hn.out]; rfl, H4.out.trans (HB.out.mono H4.out.size)⟩

/-! ### with -/
end Go.Proofs.YtcklfffeimnfeaaGreat

namespace Go.Proofs.YtcklfffeimnfeaaGreat
open Go.RowKit

theorem addArc_len15 (A : List ArcD) (x : EdgeD) : (addArc A x).length ≤ A.length + 1 := by
  unfold addArc
  split
  · rename_i y h
    have hl : 0 < A.length := by
      cases A with
      | nil => simp at h
      | cons a A => simp
    split
    · simp <;> omega
    · simp
  · simp
theorem withR_len (m : Nat) (out : List RowD) (x : EdgeD) (h : ∀ r ∈ out, r.2.length ≤ m) : (∀ r ∈ withR out x, r.2.length ≤ m + 1) ∧ (withR out x).length ≤ out.length + 1 := by
  unfold withR
  split
  · rename_i r hr
    have hm := List.mem_of_getLast? hr
    split
    · refine ⟨fun y hy => ?_, ?_⟩
      · rcases List.mem_append.1 hy with hy | hy
        · have := h y (List.dropLast_subset _ hy); omega
        · simp only [List.mem_singleton] at hy
          subst hy
          have h1 := addArc_len15 r.2 x
          have h2 := h r hm
          simp only
          omega
      · simp <;> omega
    · refine ⟨fun y hy => ?_, by simp⟩
      rcases List.mem_append.1 hy with hy | hy
      · have := h y hy; omega
      · simp only [List.mem_singleton] at hy; subst hy; simp
  · refine ⟨fun y hy => ?_, by simp⟩
    simp only [List.mem_singleton] at hy; subst hy; simp
theorem rrowsGo_len : ∀ (ks : List (List UInt8)) (m : Nat) (out : List RowD) (e : Option EdgeD), (∀ r ∈ out, r.2.length ≤ m) → out.length ≤ m → (∀ r ∈ (rrowsGo out e ks).1, r.2.length ≤ m + ks.length) ∧ (rrowsGo out e ks).1.length ≤ m + ks.length
  | [], m, out, e, h, h2 => by unfold rrowsGo; exact ⟨fun r hr => by have := h r hr; simp only [List.length_nil]; omega, by simp only [List.length_nil]; omega⟩
  | k :: ks, m, out, e, h, h2 => by
    unfold rrowsGo
    split
    · simp
    split
    · simp
    split
    · simp
    have h3 := withR_len m out (keyE k) h
    have h4 := rrowsGo_len ks (m + 1) (withR out (keyE k)) (some (keyE k)) h3.1 (by omega)
    rw [List.length_cons, show m + (ks.length + 1) = m + 1 + ks.length by omega]
    exact h4
theorem ofM_len (l : List EdgeD) : (∀ r ∈ (ofM l).1, r.2.length ≤ l.length) ∧ (ofM l).1.length ≤ l.length := by
  unfold ofM
  split
  · simp
  · have h := rrowsGo_len (keysM (sortR l)) 0 [] none (by simp) (by simp)
    rw [Nat.zero_add, keysM, List.length_map, sortR_len] at h
    exact h
end Go.Proofs.YtcklfffeimnfeaaGreat

namespace Go.Proofs.YtcklfffeimnfeaaGreat
open Go.RowKit

def greatW (j : JobD) : Bool := decide (20 < j.length) || (decide (20 < j.tries) || (decide (300 < j.src.length) || (decide (60 < j.walks) || decide (60 < j.src.length * j.walks))))
theorem greatW_no {j : JobD} (h : greatW j = false) : j.length ≤ 20 ∧ j.tries ≤ 20 ∧ j.src.length ≤ 300 ∧ j.walks ≤ 60 ∧ j.src.length * j.walks ≤ 60 := by
  simp only [greatW, Bool.or_eq_false_iff, decide_eq_false_iff_not] at h
  omega
theorem great22_any (j : JobD) (hj : JobOk j) (so : Option Addr) (sc : Nat) (w : World) : Calls Tryz.prog 11 #[.agg (jobCs j so sc)] w (RetB (.bool (greatW j)) w) := by
  have hwk := hj.walks
  unfold greatW
  obtain ⟨W2, hW2⟩ : ∃ W2, w.alloc (.cells (jobCs j so sc) 29) = W2 := ⟨_, rfl⟩
  have hr : W2.heap[w.heap.size]? = some (.cells (jobCs j so sc) 29 (0, 0)) := by rw [← hW2]; exact heap_alloc_new _ _
  have hc := fun i => cell_of_row W2 w.heap.size i (jobCs j so sc) _ (0, 0) hr
  have c2 : W2.cell? ⟨w.heap.size, 2, none⟩ = some (.int .u32 (j.length : Nat)) := hc 2
  have c3 : W2.cell? ⟨w.heap.size, 3, none⟩ = some (.int .u32 (j.walks : Nat)) := hc 3
  have c4 : W2.cell? ⟨w.heap.size, 4, none⟩ = some (.slice so j.src.length sc) := hc 4
  have c9 : W2.cell? ⟨w.heap.size, 9, none⟩ = some (.int .u32 (j.tries : Nat)) := hc 9
  have HB := Lib.hid (show Below w.heap.size w W2 by rw [← hW2]; exact ext_alloc _ _)
  clear hc hr hj
  generalize jobCs j so sc = jc at *
  generalize j.length = L at *
  generalize j.walks = K at *
  generalize j.tries = T at *
  generalize j.src.length = S at *
  by_cases h1 : 20 < L
  · have d1 : decide ((20 : Int) < (L : Int)) = true := by simp; omega
    have d1' : decide (20 < L) = true := by simp; omega
    rw [d1']
    go_enter Tryz.func11, Tryz.ntmps11
    go_wp2_with fail
    go_ret
    exact ⟨rfl, HB.out⟩
  · have d1 : decide ((20 : Int) < (L : Int)) = false := by simp; omega
    have d1' : decide (20 < L) = false := by simp; omega
    rw [d1']
    by_cases h2 : 20 < T
    · have d2 : decide ((20 : Int) < (T : Int)) = true := by simp; omega
      have d2' : decide (20 < T) = true := by simp; omega
      rw [d2']
      go_enter Tryz.func11, Tryz.ntmps11
      go_wp2_with fail
      go_ret
      exact ⟨rfl, HB.out⟩
    · have d2 : decide ((20 : Int) < (T : Int)) = false := by simp; omega
      have d2' : decide (20 < T) = false := by simp; omega
      rw [d2']
      by_cases h3 : 300 < S
      · have d3 : decide ((300 : Int) < (S : Int)) = true := by simp; omega
        have d3' : decide (300 < S) = true := by simp; omega
        rw [d3']
        go_enter Tryz.func11, Tryz.ntmps11
        go_wp2_with fail
        go_ret
        exact ⟨rfl, HB.out⟩
      · have d3 : decide ((300 : Int) < (S : Int)) = false := by simp; omega
        have d3' : decide (300 < S) = false := by simp; omega
        rw [d3']
        by_cases h4 : 60 < K
        · have d4 : decide ((60 : Int) < (K : Int)) = true := by simp; omega
          have d4' : decide (60 < K) = true := by simp; omega
          rw [d4']
          go_enter Tryz.func11, Tryz.ntmps11
          go_wp2_with fail
          go_ret
          exact ⟨rfl, HB.out⟩
        · have d4 : decide ((60 : Int) < (K : Int)) = false := by simp; omega
          have d4' : decide (60 < K) = false := by simp; omega
          rw [d4']
          obtain ⟨m, hm⟩ : ∃ m, S * K = m := ⟨_, rfl⟩
          have hmb : m ≤ 300 * 60 := by rw [← hm]; exact Nat.mul_le_mul (by omega) (by omega)
          have hmz : (S : Int) * (K : Int) = (m : Nat) := by rw [← hm]; simp
          have hmw : IntKind.i64.wrap ((S : Int) * (K : Int)) = (m : Nat) := by rw [hmz]; exact IntWalk.i64_in _ (by omega)
          have hkw : IntKind.i64.wrap (K : Int) = (K : Int) := IntWalk.i64_in _ (by omega)
          rw [hm]
          clear hm hmz
          by_cases h5 : 60 < m
          · have d5 : decide ((60 : Int) < (m : Int)) = true := by simp; omega
            have d5' : decide (60 < m) = true := by simp; omega
            rw [d5']
            go_enter Tryz.func11, Tryz.ntmps11
            go_wp2_with fail
            go_ret
            exact ⟨rfl, HB.out⟩
          · have d5 : decide ((60 : Int) < (m : Int)) = false := by simp; omega
            have d5' : decide (60 < m) = false := by simp; omega
            rw [d5']
            go_enter Tryz.func11, Tryz.ntmps11
            go_wp2_with fail
            go_ret
            exact ⟨rfl, HB.out⟩
/-! ### one arc goes one way -/
theorem cand_one (b w : Nat) (hm : mayA [(b, w)] = true) (j : JobD) (id s t : Nat) : candW [(b, w)] j id s t = b := by
  have h := cand_lt hm (by simp) j id s t
  unfold candW
  rw [getElem!_pos [(b, w)] _ h]
  simp
theorem next_one {R : List RowD} {j : JobD} {id : Nat} {path : List Nat} {b w : Nat} (ha : arcs15M R path[path.length - 1]! = [(b, w)]) (hm : mayA [(b, w)] = true) (hk : j.kind = 0) (ht : 0 < j.tries) : nextW R j id path = some b := by
  unfold nextW
  rw [ha, if_neg (by simp), show backW j id (path.length - 1) = false by unfold backW; rw [hk]; rfl]
  obtain ⟨t, ht'⟩ : ∃ t, j.tries = t + 1 := ⟨j.tries - 1, by omega⟩
  rw [ht']
  refine tries_some ?_
  unfold tryW
  rw [cand_one b w hm, show takesW (near15M R) j id path b 0 = true by unfold takesW; rw [if_pos (.inl (by omega))]]
  rfl
def aw22J : JobD := ⟨0, 0, 3, 1, [1], 0, 1, 1, 1, 100, 10, 1024, 4096, 64, 64⟩
theorem aw22J_ok : JobOk aw22J := by
  refine ⟨?_, ?_, ?_, ?_, ?_, ?_, ?_, ?_, ?_, ?_, ?_, ?_, ?_, ?_, ?_⟩ <;> decide
def aw22R : List RowD := [(1, [(2, 1)]), (2, [(1, 1)])]
theorem aw22_of : ofM [(1, 2, 1), (2, 1, 1)] = (aw22R, 0) := by decide +kernel
theorem aw22_ok : okG aw22R := ofM_okG (l := [(1, 2, 1), (2, 1, 1)]) (by intro x hx; simp at hx; rcases hx with rfl | rfl <;> simp [okE]) aw22_of
theorem aw22_path : pathW aw22R aw22J 0 = [1, 2, 1, 2] := by
  have hm : mayJ aw22J = true := by decide
  have hw : walkersJ aw22J = 1 := by unfold walkersJ; rw [hm]; rfl
  have hs : srcH aw22J 0 = true := by unfold srcH; rw [hw]; rfl
  have hn : (newJ aw22J 0).at_ = 1 := by unfold newJ srcN; rw [hw]; rfl
  have m1 : mayA [(2, 1)] = true := by decide
  have m2 : mayA [(1, 1)] = true := by decide
  have a1 : arcs15M aw22R 1 = [(2, 1)] := by decide
  have a2 : arcs15M aw22R 2 = [(1, 1)] := by decide
  unfold pathW
  rw [hs, hn, show aw22J.length = 3 from rfl, if_pos rfl]
  rw [walkW, next_one (b := 2) (w := 1) a1 m1 rfl (by decide)]
  simp only [List.cons_append, List.nil_append]
  rw [walkW, next_one (b := 1) (w := 1) a2 m2 rfl (by decide)]
  simp only [List.cons_append, List.nil_append]
  rw [walkW, next_one (b := 2) (w := 1) a1 m1 rfl (by decide)]
  simp only [List.cons_append, List.nil_append]
  rfl
theorem rd_edges2 (W : World) (a b c d e f n : Nat) (hn : n = W.heap.size) (h1 : okE (a, b, c)) (h2 : okE (d, e, f)) (t : TypeId) :
    RdS edgeRep (fun _ => True) (W.alloc (.cells #[.int .u32 (a : Nat), .int .u32 (b : Nat), .int .u32 (c : Nat), .int .u32 (d : Nat), .int .u32 (e : Nat), .int .u32 (f : Nat)] t)) (some ⟨n, 0, none⟩) [(a, b, c), (d, e, f)] :=
  (RdS.new (R := edgeRep) (fp := fun _ => False) (l := [(a, b, c), (d, e, f)]) (css := [[.int .u32 (a : Nat), .int .u32 (b : Nat), .int .u32 (c : Nat)], [.int .u32 (d : Nat), .int .u32 (e : Nat), .int .u32 (f : Nat)]])
    (.cons ⟨[_], [_, _], rfl, ⟨rfl, h1.1⟩, [_], [_], rfl, ⟨rfl, h1.2.1⟩, ⟨rfl, h1.2.2⟩⟩ (.cons ⟨[_], [_, _], rfl, ⟨rfl, h2.1⟩, [_], [_], rfl, ⟨rfl, h2.2.1⟩, ⟨rfl, h2.2.2⟩⟩ .nil)) rfl n hn).mono (fun _ _ _ => trivial)
theorem same1212 (w : World) (a : Option Addr) (c : Nat) (h : Rd w a 4 (u32s [1, 2, 1, 2])) :
    Calls Tryz.prog 15 #[.slice a 4 c, .slice (some ⟨w.heap.size, 0, none⟩) 4 4] (w.alloc (.cells #[.int .u32 1, .int .u32 2, .int .u32 1, .int .u32 2] 24))
      (RetB (.bool true) (w.alloc (.cells #[.int .u32 1, .int .u32 2, .int .u32 1, .int .u32 2] 24))) := by
  have ho : Own (w.alloc (.cells #[.int .u32 1, .int .u32 2, .int .u32 1, .int .u32 2] 24)) (some ⟨w.heap.size, 0, none⟩) 4 (some w.heap.size) 24 1 4 (u32s [1, 2, 1, 2]) :=
    ⟨rfl, .inr ⟨w.heap.size, _, rfl, rfl, heap_alloc_new w _, Nat.le_refl _, by decide, rfl, rfl⟩⟩
  refine (vsame15_any [1, 2, 1, 2] a (some ⟨w.heap.size, 0, none⟩) c 4 _ (by decide) (h.ext (ext_alloc w _)) ho.rd).mono ?_
  rintro e w' ⟨rfl, m, rfl⟩
  exact ⟨rfl, ext_drewN _ _⟩
theorem awake22_any (w : World) : Calls Tryz.prog 12 #[] w (RetB (.bool true) w) := by
  have HBg := Lib.hid (fun W => (show Calls Tryz.prog 25 #[] W (RetB (.agg #[.int .u8 0, .int .u64 0, .int .u32 10, .int .u32 1, .slice none 0 0, .int .u32 0, .int .u32 1, .int .u32 1, .int .u32 1, .int .u32 100, .int .u32 10, .int .u32 1024, .int .u32 4096, .int .u32 64, .int .u32 64]) W) from begin_any W))
  obtain ⟨W2, hW2⟩ : ∃ W2, w.alloc (.cells #[.int .u32 1, .int .u32 2, .int .u32 1, .int .u32 2, .int .u32 1, .int .u32 1] 48) = W2 := ⟨_, rfl⟩
  have B2 := Lib.hid (show Below w.heap.size w W2 by rw [← hW2]; exact ext_alloc w _)
  have HOf := Lib.hid (show Calls Tryz.prog 14 #[.slice (some ⟨w.heap.size, 0, none⟩) 2 2] W2 (GraphRet (aw22R, 0) W2) from by
    have hr : RdS edgeRep (fun _ => True) W2 (some ⟨w.heap.size, 0, none⟩) [(1, 2, 1), (2, 1, 1)] := by rw [← hW2]; exact rd_edges2 w 1 2 1 2 1 1 _ rfl (by simp [okE]) (by simp [okE]) _
    have h := gof_any [(1, 2, 1), (2, 1, 1)] (some ⟨w.heap.size, 0, none⟩) 2 _ W2 (by simp) (by intro x hx; simp at hx; rcases hx with rfl | rfl <;> simp [okE]) hr
    rw [aw22_of] at h
    exact h)
  go_enter Tryz.func12, Tryz.ntmps12
  go_upto_region 2 with (go_at_call 14; (with_reducible refine HOf.out.mono ?_); rintro e w3 ⟨p, rfl, _, _, h1, h2⟩; have H1 := Lib.hid (h1.mono (fun b _ hl => hl)); have B3 := Lib.hid (B2.out.trans (h2.mono B2.out.size)); clear h1 h2)
  clear hW2 HOf
  obtain ⟨gv, hgv⟩ : ∃ gv, gV p = gv := ⟨_, rfl⟩
  rw [hgv]
  go_upto_region 5 with (go_at_call 25; (with_reducible refine (HBg.out _).mono ?_); rintro e w4 ⟨rfl, hB⟩; have B4 := Lib.hid (B3.out.trans (hB.mono B3.out.size)); have G4 := Lib.hid (H1.out.ext hB); have z4 := hB.size; clear hB)
  obtain ⟨W5, hW5⟩ : ∃ W5, (w4.alloc (.cells #[.int .u8 0, .int .u64 0, .int .u32 3, .int .u32 1, .slice (some ⟨w4.heap.size + 1, 0, none⟩) 1 1, .int .u32 0, .int .u32 1, .int .u32 1, .int .u32 1, .int .u32 100, .int .u32 10, .int .u32 1024, .int .u32 4096, .int .u32 64, .int .u32 64] 29)).alloc (.cells #[.int .u32 1] 24) = W5 := ⟨_, rfl⟩
  have hb1 : W5.heap[w4.heap.size]? = some (.cells (jobCs aw22J (some ⟨w4.heap.size + 1, 0, none⟩) 1) 29 (0, 0)) := by rw [← hW5]; exact heap_alloc2_old _ _ _
  have hb2 : W5.heap[w4.heap.size + 1]? = some (.cells #[.int .u32 1] 24 (0, 0)) := by rw [← hW5]; exact heap_alloc2_new _ _ _
  have HB5 : Below w4.heap.size w4 W5 := by rw [← hW5]; exact (ext_alloc _ _).alloc (by simp) _
  have hrd : Rd W5 (some ⟨w4.heap.size + 1, 0, none⟩) aw22J.src.length (u32s aw22J.src) := by
    have ho : Own W5 (some ⟨w4.heap.size + 1, 0, none⟩) 1 (some (w4.heap.size + 1)) 24 1 1 (u32s aw22J.src) := ⟨rfl, .inr ⟨w4.heap.size + 1, _, rfl, rfl, hb2, Nat.le_refl _, by decide, rfl, rfl⟩⟩
    exact ho.rd
  have HP := Lib.hid (show Calls Tryz.prog 16 #[gv, .agg (jobCs aw22J (some ⟨w4.heap.size + 1, 0, none⟩) 1), .int .u32 0] W5 (PathRet [1, 2, 1, 2] W5) from by
    rw [← aw22_path, ← hgv]
    exact path_any p aw22R _ W5 aw22_ok (by decide) (by decide) (G4.out.ext HB5) (fun b hb => by have := HB5.size; omega) aw22J aw22J_ok _ 1 0 (by decide) (by decide) hrd)
  have B5 := Lib.hid (B4.out.trans (HB5.mono B4.out.size))
  have Hb1 := Lib.hid hb1
  rw [hW5]
  clear hW5 hb1 hb2 hrd HB5 hgv
  go_wp2_with (first
    | (refine wpList_load_rowg rfl _ _ rfl w4.heap.size rfl 29 (jobCs aw22J (some ⟨w4.heap.size + 1, 0, none⟩) 1) (0, 0) _ Hb1.out Tryz.underlying29 rfl (show _ = some 15 by kernel_rfl) ?_)
    | (go_at_call 16; (with_reducible refine HP.out.mono ?_); rintro e w6 ⟨a6, k6, g6, rfl, ho6, _, hB⟩; have HS6 := Lib.hid (same1212 w6 a6 k6 ho6.rd); have B6 := Lib.hid (B5.out.trans (hB.mono B5.out.size)); clear ho6 hB)
    | (go_at_call 15; (with_reducible refine HS6.out.mono ?_); rintro e w7 ⟨rfl, hB⟩; have B7 := Lib.hid ((B6.out.alloc B6.out.size _).trans (hB.mono (Nat.le_trans B6.out.size (ext_alloc w6 _).size))); clear hB))
  go_ret
  exact ⟨rfl, B7.out⟩
end Go.Proofs.YtcklfffeimnfeaaGreat

namespace Go.Proofs.YtcklfffeimnfeaaGreat
open Go.RowKit

section
variable {P : Program} {ops : Array Oper} {S : World → Prop} {Q : Exit → Act → World → Prop}
theorem yieldsIf_row22 {o : Oper} {a : Act} (hw : Region.wanted o (yielded ops a.tmps) = true) (ty : TypeId) (x : Operand) (ho : o.op = .load ty x) (g : Nat) (hx : a.eval x = .pointer (some ⟨g, 0, none⟩)) (t : TypeId) (cs : Array Value) (fr : Nat × Nat) (d : TypeDesc)
    (hS : ∀ w, S w → w.heap[g]? = some (.cells cs t fr)) (hu : P.underlying ty = some d) (hd : (match d with | .struct _ | .array _ _ => true | _ => false) = true) (hi : (P.info? ty).map (·.size) = some cs.size) : YieldsIf P ops S o (.agg cs) a := by
  refine Or.inl ⟨hw, fun w hs => ?_⟩
  unfold execOp
  simp only [ho, hx, Instr.loadAt, Instr.sureAddr, Sem.run_bind, Sem.run_pure, Result.andThen_ok, run_loadVar_row w g t ty cs fr d (hS w hs) hu hd hi]
end
theorem jb_info2 (j : JobD) (so : Option Addr) (sc : Nat) : (Tryz.prog.info? 29).map (·.size) = some (jobCs j so sc).size := by kernel_rfl
theorem RdS.okEs {fp : Nat → Prop} {w : World} {ao : Option Addr} {l : List EdgeD} (h : RdS edgeRep fp w ao l) : ∀ x ∈ l, okE x := fun x hx => by
  obtain ⟨k, hk, rfl⟩ := List.mem_iff_getElem.1 hx
  obtain ⟨_, _, _, _, _, _, _, h1, h2, h3⟩ := h.edgeM k hk
  exact ⟨h1, h2, h3⟩
theorem of_fit {l : List EdgeD} (hok : ∀ x ∈ l, okE x) (h : (ofM l).2 = 0) : okG (ofM l).1 := ofM_okG hok (R := (ofM l).1) (by rw [← h])
theorem heap_keep {w w' : World} {g : Nat} {o : Obj} (h : w.heap[g]? = some o) (hB : Below w.heap.size w w') : w'.heap[g]? = some o := (hB.block _ (Array.getElem?_eq_some_iff.1 h).1).trans h
/-! ### longer walks -/
def withK (j : JobD) (b0 b1 b2 b3 best longer : Nat) : JobD := { j with length := longer, best := best, bsh := b0, bro := b1, bpo := b2, bso := b3 }
end Go.Proofs.YtcklfffeimnfeaaGreat

namespace Go.Proofs.YtcklfffeimnfeaaGreat
open Go.RowKit
def budRep : Rep (Nat × Nat × Nat × Nat × Unit) := Rep.prod Rep.u32 (Rep.prod Rep.u32 (Rep.prod Rep.u32 (Rep.prod Rep.u32 Rep.unit)))
theorem bud_opens : Opens Tryz.prog budRep 27 := by
  have hu := opens_u32 (P := Tryz.prog) Tryz.underlying24 (by kernel_rfl)
  exact opens_struct (P := Tryz.prog) Tryz.underlying27 (by kernel_rfl) (.cons (by kernel_rfl) hu (.cons (by kernel_rfl) hu (.cons (by kernel_rfl) hu (.cons (by kernel_rfl) hu .nil))))
def wkRep : Rep (Nat × Nat × Nat × Nat × Nat × Nat × Nat × Unit) := Rep.prod Rep.u32 (Rep.prod Rep.u32 (Rep.prod Rep.u32 (Rep.prod Rep.u32 (Rep.prod Rep.u32 (Rep.prod Rep.u32 (Rep.prod Rep.u32 Rep.unit))))))
abbrev U := Rep.u32
def jobRep : Rep (UInt8 × Nat × Nat × Nat × List Nat × Nat × Nat × Nat × Nat × Nat × Nat × (Nat × Nat × Nat × Nat × Unit) × Unit) :=
  Rep.prod Rep.u8 (Rep.prod Rep.u64 (Rep.prod U (Rep.prod U (Rep.prod (Rep.slice U) (Rep.prod U (Rep.prod U (Rep.prod U (Rep.prod U (Rep.prod U (Rep.prod U (Rep.prod budRep Rep.unit)))))))))))
theorem job_opens : Opens Tryz.prog jobRep 29 := by
  have hu := opens_u32 (P := Tryz.prog) Tryz.underlying24 (by kernel_rfl)
  have h8 := opens_u8 (P := Tryz.prog) Tryz.underlying5 (by kernel_rfl)
  have h64 := opens_u64 (P := Tryz.prog) Tryz.underlying23 (by kernel_rfl)
  have hs := opens_slice (P := Tryz.prog) Tryz.underlying25 (by kernel_rfl) (by decide) hu
  exact opens_struct (P := Tryz.prog) Tryz.underlying29 (by kernel_rfl) (.cons (by kernel_rfl) h8 (.cons (by kernel_rfl) h64 (.cons (by kernel_rfl) hu (.cons (by kernel_rfl) hu (.cons (by kernel_rfl) hs (.cons (by kernel_rfl) hu (.cons (by kernel_rfl) hu (.cons (by kernel_rfl) hu (.cons (by kernel_rfl) hu (.cons (by kernel_rfl) hu (.cons (by kernel_rfl) hu (.cons (by kernel_rfl) bud_opens .nil))))))))))))
theorem RdS.rdU32 {fp : Nat → Prop} {w : World} {ao : Option Addr} {l : List Nat} (h : RdS Rep.u32 fp w ao l) : Rd w ao l.length (u32s l) ∧ ∀ x ∈ l, x < 4294967296 := by
  refine ⟨⟨by simp [u32s], ?_⟩, fun x hx => ?_⟩
  · rcases h with h | ⟨b, off, h1, h2, h3, h4⟩
    · subst h; exact .inl rfl
    · refine .inr ⟨b, off, h1, h3, fun j hj => ?_⟩
      obtain ⟨cs, ⟨rfl, _⟩, h6⟩ := h4 j l[j] (List.getElem?_eq_getElem hj)
      have h7 := h6 0 Nat.one_pos
      simp only [Rep.nat, Nat.mul_one, Nat.add_zero] at h7
      rw [h7]
      simp [u32s, hj]
  · rcases h with h | ⟨b, off, h1, h2, h3, h4⟩
    · subst h; cases hx
    · obtain ⟨j, hj, rfl⟩ := List.mem_iff_getElem.1 hx
      obtain ⟨cs, ⟨_, h5⟩, _⟩ := h4 j l[j] (List.getElem?_eq_getElem hj)
      exact h5
theorem open_job {H : Type} {enc : TypeId × Value → H} {W : World} {base : Nat} {v : Value} {d : DataW H} {p : List MemPlace} (hval : Value.okWide Tryz.prog W .any base 29 v) (h : DataW.Trod enc Tryz.prog W 0 (fun _ => true) true 29 v d p) :
    ∃ (j : JobD) (ao : Option Addr) (cap : Nat), v = .agg (jobCs j ao cap) ∧ JobOk j ∧ Rd W ao j.src.length (u32s j.src) := by
  obtain ⟨cs, rfl, hsz⟩ := Go.WideShapes.okWide_struct Tryz.underlying29 hval
  obtain ⟨fuel, hf⟩ := h
  obtain ⟨⟨a, b, c, d, l, e, f, g, i, k, m, ⟨n, o, q, r, _⟩, _⟩, _, _, e1, h1, _, _, rfl, ⟨rfl, h2⟩, _, _, rfl, ⟨rfl, h3⟩, _, _, rfl, ⟨rfl, h4⟩, _, _, rfl, ⟨ao, cap, rfl, _, _, hl⟩, _, _, rfl, ⟨rfl, h6⟩, _, _, rfl, ⟨rfl, h7⟩, _, _, rfl, ⟨rfl, h8⟩, _, _, rfl, ⟨rfl, h9⟩, _, _, rfl, ⟨rfl, h10⟩, _, _, rfl, ⟨rfl, h11⟩, _, _, rfl, ⟨_, _, rfl, ⟨rfl, h12⟩, _, _, rfl, ⟨rfl, h13⟩, _, _, rfl, ⟨rfl, h14⟩, _, _, rfl, ⟨rfl, h15⟩, rfl⟩, rfl⟩ := job_opens.2 hf
  obtain ⟨hr, hlt⟩ := hl.rdU32
  cases h1
  exact ⟨⟨a.toNat, b, c, d, l, e, f, g, i, k, m, n, o, q, r⟩, ao, cap, congrArg Value.agg (Array.toList_inj.1 e1), ⟨a.toNat_lt, h2, h3, h4, hlt, h6, h7, h8, h9, h10, h11, h12, h13, h14, h15⟩, hr⟩
end Go.Proofs.YtcklfffeimnfeaaGreat
