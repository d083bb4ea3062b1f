/- Texts merged into one: FrontsW, FrontW, IntervalW, AliasW, PiecesW. -/
import Derived.Test.YtcklfffeimnfeaaGreatBx17
import Derived.Test.YtcklfffeimnfeaaGreatBx09
import Derived.Test.YtcklfffeimnfeaaGreatBx08
import Derived.RegionIn
import Derived.Test.YtcklfffeimnfeaaGreatBx15
set_option maxRecDepth 100000
set_option maxHeartbeats 12800000
set_option linter.unusedSimpArgs false
set_option linter.unusedVariables false
namespace Go.Proofs.YtcklfffeimnfeaaGreat
open Go.RowKit

def frs (W : List Nat) : List (Nat × Nat) := (List.range W.length).map (fun i => (i, frontT W i))
theorem frontT_succ {W : List Nat} {k : Nat} (h : k < W.length) : frontT W (k + 1) = frontT W k + W.length * W[k] := by
  unfold frontT
  rw [List.take_succ_eq_append_getElem h, List.sum_append, Nat.mul_add]
  simp
theorem frs_len (W : List Nat) : (frs W).length = W.length := by simp [frs]
theorem frs_snoc {W : List Nat} {k : Nat} (h : k < W.length) : (frs W).take (k + 1) = (frs W).take k ++ [(k, frontT W k)] := by
  rw [List.take_succ_eq_append_getElem (by rw [frs_len]; exact h)]
  simp [frs]
def frontsRel (l : List ArcD) (J : List (Nat × Nat) → (Nat → Prop) → World → Prop) (fp : Nat → Prop) (W : World) (s i : Value) (wr : World) : Prop :=
  ∃ (pre : List (Nat × Nat)) (fp1 : Nat → Prop) (k : Nat), s = .int .u64 (frontT (l.map (·.2)) k : Nat) ∧ i = .int .i64 k ∧ k ≤ l.length ∧ pre = (frs (l.map (·.2))).take k ∧ J pre fp1 wr ∧ Fwd (fun k => fp k ∨ False) fp1 W wr ∧ (∀ k, fp1 k → fp k ∨ W.heap.size ≤ k)
attribute [local go_sem] Oper.semAt_some
theorem fronts_iter (b : Nat) (l : List ArcD) (ao : Option Addr) (cap : Nat) (rfp : Nat → Prop) (hl : l.length ≤ 1000) (hs : sumA l ≤ 2147483647) :
    IterR Tryz.prog 157 #[.pointer (some ⟨b, 0, none⟩)] (fun x : Nat × Nat => #[.int .i64 (x.1 : Nat), .int .u64 (x.2 : Nat)]) (fun pre => pre <+: frs (l.map (·.2))) (fun xs => xs = frs (l.map (·.2))) (fun _ => True)
      (fun _ _ _ => True)
      (fun W => W.cell? ⟨b, 0, none⟩ = some (.slice ao l.length cap) ∧ RdS arcRep rfp W ao l) (fun k => k = b ∨ rfp k) (fun _ => False) := by
  rintro ly J Jx fp W ⟨hc, hrd⟩ hfp hJ hJx _ hY h0
  have hb : b < W.heap.size := World.block_lt_of_cell? W _ hc
  have HJ := Lib.hid hJ
  have HJx := Lib.hid hJx
  have HY := Lib.hid hY
  have H0 : Hid (frontsRel l J fp W (.int .u64 0) (.int .i64 0) W) := ⟨[], fp, 0, by simp [frontT], rfl, by omega, by simp, h0, (Fwd.refl (fun k hk => (hfp k hk).1)).wider (fun k hk => .inl hk), fun k hk => .inl hk⟩
  have Hfp := Lib.hid hfp
  have Hc := Lib.hid hc
  have Hrd := Lib.hid hrd
  clear hJ hJx hY h0 hfp hc hrd
  refine callsIn_of_wp Tryz.func157 rfl trivial ?_
  simp only [Tryz.ntmps157, List.size_toArray, List.length_cons, List.length_nil, Nat.reduceAdd, Nat.reduceSub, Array.replicate_succ, Array.replicate_zero, List.push_toArray, List.append_toArray, List.nil_append, List.cons_append]
  have hc := Hc.out
  gi_wp2_with fail
  clear hc
  gi_loopw [3, 4, 8] (fun s _ i wr => frontsRel l J fp W s i wr) (fun _ _ i _ => l.length - (intOf i).toNat)
  case atStart => exact H0.out
  case round =>
    obtain ⟨pre, fp1, k, rfl, rfl, hk, hpre, hj, hfw, hfo⟩ := hrel
    have hon : ∀ j, (j = b ∨ rfp j) → ¬ (fp j ∨ False) := fun j hj h => h.elim (fun h => (Hfp.out j h).2 hj) id
    have hrd := Hrd.out.only hfw.only (fun j hj _ => hon j (.inr hj))
    have Hj := Lib.hid hj
    have Hfw := Lib.hid hfw
    have Hfo := Lib.hid hfo
    have Hpre := Lib.hid hpre
    clear hj hfw hfo hpre hon
    by_cases hlt : k < l.length
    · obtain ⟨ba, off, rfl, hba, a0, a1, hok⟩ := hrd.arc k hlt
      have hir : (k : Int) < (l.length : Int) := by omega
      have hW : k < (l.map (·.2)).length := by rw [List.length_map]; exact hlt
      have Hsn := Lib.hid (frs_snoc hW)
      have Hfs := Lib.hid (show frontT (l.map (·.2)) (k + 1) = frontT (l.map (·.2)) k + l.length * l[k].2 by rw [frontT_succ hW]; simp)
      have hok' := Lib.hid hok
      clear hrd hok
      obtain ⟨wb, hwb⟩ : ∃ wb, wr.alloc (.cells #[.int .u32 (l[k].1 : Nat), .int .u32 (l[k].2 : Nat)] 85) = wb := ⟨_, rfl⟩
      have hbb : Below wr.heap.size wr wb := by rw [← hwb]; exact ext_alloc wr _
      obtain ⟨fn, tmps, assign, body, hy, hR⟩ := HY.out pre fp1 (k, frontT (l.map (·.2)) k) wb (J_ext HJ.out Hj.out (fun k hk => (Hfw.out.own k hk).2) hbb) (fun k hk => Nat.lt_of_lt_of_le (Hfw.out.own k hk).2 hbb.size) (Hfw.out.ext hbb).only
        (by rw [Hpre.out, ← Hsn.out]; exact List.take_prefix _ _) trivial
      have HR := Lib.hid hR
      have Hbb := Lib.hid hbb
      clear hR hbb
      gi_wp2_with fail
      refine HR.out.mono ?_
      clear hy HR
      have hnb : ¬ fp1 b := fun h => (Hfo.out b h).elim (fun h => (Hfp.out b h).2 (.inl rfl)) (fun h => by omega)
      have hnx : ¬ fp1 wr.heap.size := fun h => by have := (Hfw.out.own _ h).2; omega
      have hbr : b < wr.heap.size := Nat.lt_of_lt_of_le hb Hfw.out.only.size
      have hwz : wb.heap.size = wr.heap.size + 1 := by rw [← hwb]; simp
      have hbc : wb.cell? ⟨b, 0, none⟩ = some (.slice (some ⟨ba, off, none⟩) l.length cap) := ((bcell Hbb.out).1 b 0 hbr).trans ((Hfw.out.only.cell hb (fun h => h.elim (fun h => (Hfp.out b h).2 (.inl rfl)) id) 0).trans Hc.out)
      obtain ⟨X1, hX1⟩ : ∃ X1, l[k].2 = X1 := ⟨_, rfl⟩
      have hxc : wb.cell? ⟨wr.heap.size, 1, none⟩ = some (.int .u32 (X1 : Nat)) := by rw [← hwb, ← hX1]; simp [go_sem]
      rintro e W2 ⟨fp2, hfw2, (⟨rfl, hj2⟩ | ⟨rfl, hjx2⟩)⟩
      · have c0 := (hfw2.only.cell (b := b) (by omega) hnb 0).trans hbc
        have c1 := (hfw2.only.cell (b := wr.heap.size) (by omega) hnx 1).trans hxc
        have Hj2 := Lib.hid hj2
        have Hfw2 := Lib.hid hfw2
        clear hj2 hfw2
        have hxb : X1 < 4294967296 := by rw [← hX1]; exact hok'.out.2
        obtain ⟨p, hp⟩ : ∃ p, l.length * X1 = p := ⟨_, rfl⟩
        have hpb : p ≤ 1000 * 4294967296 := by rw [← hp]; exact Nat.mul_le_mul hl (by omega)
        have hpz : (l.length : Int) * (X1 : Int) = (p : Nat) := by rw [← hp]; simp
        have hpw : IntKind.u64.wrap ((l.length : Int) * (X1 : Int)) = (p : Nat) := by rw [hpz, u64_mod]; omega
        have hnw : IntKind.u64.wrap (l.length : Int) = (l.length : Int) := by rw [u64_mod]; omega
        have hxw : IntKind.u64.wrap (X1 : Int) = (X1 : Int) := by rw [u64_mod]; omega
        have hfb : frontT (l.map (·.2)) k ≤ 1000 * 2147483647 := by
          have h1 := frontT_le (l.map (·.2)) (show k ≤ (l.map (·.2)).length by rw [List.length_map]; exact hk)
          rw [frontT_all, List.length_map] at h1
          exact Nat.le_trans h1 (Nat.mul_le_mul hl hs)
        have hq : frontT (l.map (·.2)) (k + 1) = frontT (l.map (·.2)) k + p := by rw [Hfs.out, hX1, hp]
        obtain ⟨q, hqq⟩ : ∃ q, frontT (l.map (·.2)) (k + 1) = q := ⟨_, rfl⟩
        have hqw : IntKind.u64.wrap ((frontT (l.map (·.2)) k : Int) + (p : Int)) = (q : Nat) := by rw [u64_mod]; omega
        have Hqq := Lib.hid hqq
        clear hp hpz hq hqq hX1
        gi_wp2_with fail
        go_roundw
        case rel =>
          have hfw3 := (Hfw.out.ext Hbb.out).trans Hfw2.out
          exact ⟨pre ++ [(k, frontT (l.map (·.2)) k)], fp2, k + 1, by rw [Hqq.out], by go_num, by omega, by rw [Hpre.out, Hsn.out], Hj2.out, hfw3, fun k hk => ((Hfw2.out.own k hk).1).elim (Hfo.out k) (fun h => .inr (Nat.le_trans (Hfw.out.ext Hbb.out).only.size h))⟩
        case measure => simp [intOf]; omega
      · have Hjx2 := Lib.hid hjx2
        have Hfw2 := Lib.hid hfw2
        clear hjx2 hfw2
        gi_wp2_with fail
        refine bodyPost_ret (results_none rfl _ _ _) rfl ?_
        have hfw3 := (Hfw.out.ext Hbb.out).trans Hfw2.out
        exact ⟨⟨_, rfl⟩, pre ++ [(k, frontT (l.map (·.2)) k)], fp2, hfw3, (fun k hk => ((Hfw2.out.own k hk).1).elim (Hfo.out k) (fun h => .inr (Nat.le_trans (Hfw.out.ext Hbb.out).only.size h))),
          .inr ⟨by rw [Hpre.out, ← Hsn.out]; exact List.take_prefix _ _, Hjx2.out⟩⟩
    · obtain rfl : k = l.length := by omega
      clear hrd
      gi_wp2_with fail
      go_end0
      exact ⟨⟨_, rfl⟩, pre, fp1, Hfw.out, Hfo.out, .inl ⟨by rw [Hpre.out, show l.length = (frs (l.map (·.2))).length by rw [frs_len, List.length_map], List.take_length], Hj.out⟩⟩
end Go.Proofs.YtcklfffeimnfeaaGreat

namespace Go.Proofs.YtcklfffeimnfeaaGreat
open Go.RowKit

theorem fronts_any (ao : Option Addr) (n cap : Nat) (w : World) :
    Calls Tryz.prog 144 #[.slice ao n cap] w fun e w' => e = .returned (.func (.func 157) #[] #[.pointer (some ⟨w.heap.size, 0, none⟩)]) ∧ w' = w.alloc (.cells #[.slice ao n cap] 49) := by
  have hmf : ∀ (fn : Fn) (first cap : Array Value) (w : World), (Instr.makeFunc fn first cap).run Tryz.prog w = .ok (.func fn first cap) w := fun _ _ _ _ => rfl
  go_enter Tryz.func144, Tryz.ntmps144
  go_wp2
  go_ret
  exact ⟨rfl, rfl⟩
def frontI (s k : Nat) (pre : List (Nat × Nat)) (fq : Nat → Prop) (W : World) : Prop :=
  (∀ x ∈ pre, x.1 ≠ k) ∧ W.cell? ⟨s, 0, none⟩ = some (.int .i64 (k : Nat)) ∧ W.cell? ⟨s + 1, 0, none⟩ = some (.int .u64 0) ∧ W.frozen? ⟨s + 1, 0, none⟩ = false ∧ fq s ∧ fq (s + 1)
def frontX (s k : Nat) (c : Code) (pre : List (Nat × Nat)) (fq : Nat → Prop) (W : World) : Prop :=
  c = .ret ∧ fq (s + 1) ∧ ∃ q x, pre = q ++ [x] ∧ x.1 = k ∧ W.cell? ⟨s + 1, 0, none⟩ = some (.int .u64 (x.2 : Nat))
theorem frs_mem {W : List Nat} {x : Nat × Nat} (h : x ∈ frs W) : x.2 = frontT W x.1 := by
  obtain ⟨i, _, rfl⟩ := List.mem_map.1 h
  rfl
attribute [local go_sem] Oper.semAt_some
theorem front_any (l : List ArcD) (k : Nat) (ao : Option Addr) (cap : Nat) (fp : Nat → Prop) (w : World) (hl : l.length ≤ 1000) (hs : sumA l ≤ 2147483647) (hk : k < l.length) (hfp : ∀ b, fp b → b < w.heap.size) (hrd : RdS arcRep fp w ao l) :
    Calls Tryz.prog 142 #[.slice ao l.length cap, .int .i64 (k : Nat)] w (RetB (.int .u64 (frontT (l.map (·.2)) k : Nat)) w) := by
  have hit := fun b => (fronts_iter b l ao cap fp hl hs).toT
  have Hrd := Lib.hid hrd
  clear hrd
  refine (callsIn_wide (n := 0)).1 (callsIn_of_wp_marks Tryz.func142 rfl trivial ?_)
  simp only [Tryz.ntmps142, List.size_toArray, List.length_cons, List.length_nil, Nat.reduceAdd, Nat.reduceSub, Array.replicate_succ, Array.replicate_zero, List.push_toArray, List.append_toArray, List.nil_append, List.cons_append]
  gi_wp2_with (gi_at_call 144; refine (callsIn_wide.2 (fronts_any _ _ _ _)).mono ?_; rintro e w2 ⟨rfl, rfl⟩)
  obtain ⟨w1, hw1⟩ : ∃ w1, (((w.alloc (Obj.cells #[Value.int IntKind.i64 (k : Nat)] 3)).alloc (Obj.cells #[Value.int IntKind.u64 0] 23)).alloc (Obj.cells #[.slice ao l.length cap] 49)) = w1 := ⟨_, rfl⟩
  have hs1 : w1.heap.size = w.heap.size + 3 := by rw [← hw1]; simp
  have hB1 : Below w.heap.size w w1 := by rw [← hw1]; exact ((ext_alloc w _).alloc (by simp) _).alloc (by simp; omega) _
  have c2 : w1.cell? ⟨w.heap.size + 1 + 1, 0, none⟩ = some (.slice ao l.length cap) := by rw [← hw1]; simp [go_sem, ↓IntWalk.iteOmega]
  have hI0 : frontI w.heap.size k [] (fun b => b = w.heap.size ∨ b = w.heap.size + 1) w1 := by
    rw [← hw1]
    exact ⟨by simp, by simp [go_sem, ↓IntWalk.iteOmega], by simp [go_sem, ↓IntWalk.iteOmega], by simp only [go_sem]; simp, .inl rfl, .inr rfl⟩
  rw [hw1]
  have HB1 := Lib.hid hB1
  have HI0 := Lib.hid hI0
  have hs1' : w.heap.size + 3 ≤ w1.heap.size := by omega
  clear hw1 hs1 hB1 hI0
  refine wpIn_rangeTS (gf := 157) (lb := #[.pointer (some ⟨w.heap.size + 1 + 1, 0, none⟩)]) rfl (enters_of Tryz.func157 (by kernel_rfl) rfl) (hit _) (fun _ => rfl)
    (fun b => b = w.heap.size ∨ b = w.heap.size + 1) ?hfp ?hrs (fun k h => h.elim)
    (fun pre fq W => frontI w.heap.size k pre fq W) (fun c pre fq W => frontX w.heap.size k c pre fq W) ?hI ?hIx (fun _ _ _ _ => trivial) ?hPre HI0.out
    [(9, fun x : Nat × Nat => .int .i64 (x.1 : Nat)), (10, fun x => .int .u64 (x.2 : Nat)), (5, fun x => .int .i64 (x.1 : Nat)), (6, fun x => .int .u64 (x.2 : Nat))] ?assign ?body ?done ?stop
  case hfp =>
    intro b hb
    refine ⟨by omega, fun h => ?_⟩
    rcases h with h | h
    · omega
    · have := hfp b h; omega
  case hrs =>
    rintro b (h | h)
    · omega
    · have := hfp b h; omega
  case hI =>
    rintro pre fq A B ⟨h0, h1, h2, h3, h4, h5⟩ hs
    exact ⟨h0, (hs.cell h4 0).trans h1, (hs.cell h5 0).trans h2, (hs.frozen h5 0).trans h3, h4, h5⟩
  case hIx =>
    rintro c pre fq A B ⟨rfl, h1, q, x, h3, h4, h5⟩ hs
    exact ⟨rfl, h1, q, x, h3, h4, (hs.cell h1 0).trans h5⟩
  case hPre =>
    intro W hb
    have hsz := hb.size
    exact ⟨((bcell hb).1 _ 0 (by omega)).trans c2, (Hrd.out.ext HB1.out).ext hb⟩
  case assign =>
    intro l0 x W K hK
    gi_wp2
    exact hK
  case body =>
    rintro l0 pre fq tp x W Wy hl0 hr0 honly hokk - ho0 hnl hflt htp ⟨h0, h1, h2, h3, h4, h5⟩ hsz
    simp only [List.foldl_cons, List.foldl_nil, List.setIfInBounds_toArray, List.set_cons_zero, List.set_cons_succ]
    have H0 := Lib.hid h0
    have Hflt := Lib.hid hflt
    clear hit hr0 honly hokk ho0 hnl hflt htp HI0 h0
    by_cases hx : x.1 = k
    · have hd : ((x.1 : Int) == (k : Int)) = true := by simp; omega
      gi_wp2_with fail
      refine ⟨fq, ⟨(Only.refl fq W).setCell (fun _ => h5) _, fun b hb => ⟨.inl hb, by simpa using Hflt.out b hb⟩⟩, rfl, h5, pre, x, rfl, hx, by simp [cell_set_ite, h2]⟩
    · have hd : ((x.1 : Int) == (k : Int)) = false := by simp; omega
      gi_wp2_with fail
      refine ⟨fq, ⟨Only.refl fq W, fun b hb => ⟨.inl hb, Hflt.out b hb⟩⟩, fun y hy => ?_, h1, h2, h3, h4, h5⟩
      rcases List.mem_append.1 hy with h | h
      · exact H0.out y h
      · rw [List.mem_singleton.1 h]; exact hx
  case done =>
    rintro D xs fq W hD hxs ⟨h0, -⟩ honly hfo hlt hnD hk2
    subst hxs
    exact absurd rfl (h0 (k, frontT (l.map (·.2)) k) (List.mem_map.2 ⟨k, by simpa using hk, rfl⟩))
  case stop =>
    rintro D c xs fq W hD hokk ⟨rfl, q1, pre, x, rfl, hx, h2⟩ honly hfo hlt hnD hk2
    have hbW : Below w.heap.size w W := HB1.out.trans (honly.below (by omega) (by rintro b hb (h | h) <;> first | omega | exact h))
    have hxv := frs_mem (hokk.subset (show x ∈ pre ++ [x] by simp))
    gi_wp2
    refine leaveM1 (v := .int .u64 (x.2 : Nat)) hk2 ?_ (by rw [hxv, hx]; exact ⟨rfl, ext_put hbW (by omega)⟩)
    have n1 : w.heap.size + 1 ≠ D := by omega
    simp [results, Tryz.results142, go_sem, n1, h2]
end Go.Proofs.YtcklfffeimnfeaaGreat

namespace Go.Proofs.YtcklfffeimnfeaaGreat
open Go.RowKit

def ivI (s t y : Nat) (pre : List (Nat × Nat)) (fq : Nat → Prop) (W : World) : Prop :=
  (∀ x ∈ pre, x.2 ≤ y) ∧ W.cell? ⟨s, 0, none⟩ = some (.int .u64 (y : Nat)) ∧ W.cell? ⟨t, 0, none⟩ = some (.int .i64 ((pre.length - 1 : Nat))) ∧ W.frozen? ⟨t, 0, none⟩ = false ∧ fq s ∧ fq t
def ivX (s t y : Nat) (c : Code) (pre : List (Nat × Nat)) (fq : Nat → Prop) (W : World) : Prop :=
  c = .exit 0 ∧ fq t ∧ ∃ q x, pre = q ++ [x] ∧ (∀ x ∈ q, x.2 ≤ y) ∧ y < x.2 ∧ W.cell? ⟨t, 0, none⟩ = some (.int .i64 ((q.length - 1 : Nat)))
theorem frs_at {W : List Nat} {k : Nat} (h : k < W.length) : (frs W)[k]'(by rw [frs_len]; exact h) = (k, frontT W k) := by simp [frs]
theorem interval_n {W : List Nat} {y n : Nat} (hn : n ≤ W.length) (h : ∀ x ∈ (frs W).take n, x.2 ≤ y) (hy : y < frontT W n) : intervalT W y = n - 1 := by
  have h0 : 0 < n := Nat.pos_of_ne_zero (fun e => by subst e; simp [frontT] at hy)
  refine intervalT_is (by omega) ?_ (by rw [Nat.sub_add_cancel h0]; exact hy)
  have hm : ((n - 1, frontT W (n - 1)) : Nat × Nat) ∈ (frs W).take n := by
    rw [List.mem_take_iff_getElem]
    exact ⟨n - 1, by rw [frs_len]; omega, frs_at (by omega)⟩
  exact h _ hm
theorem interval_stop {W : List Nat} {y : Nat} {q : List (Nat × Nat)} {x : Nat × Nat} (hp : q ++ [x] <+: frs W) (h : ∀ x ∈ q, x.2 ≤ y) (hy : y < x.2) : intervalT W y = q.length - 1 := by
  have hl := hp.length_le
  rw [frs_len, List.length_append, List.length_singleton] at hl
  have e := List.prefix_iff_eq_take.1 hp
  rw [List.length_append, List.length_singleton, frs_snoc (by omega)] at e
  obtain ⟨e1, e2⟩ := List.append_inj' e rfl
  refine interval_n (by omega) (fun z hz => h z (by rw [e1]; exact hz)) ?_
  rw [List.singleton_inj.1 e2] at hy
  exact hy
theorem interval_last {W : List Nat} {y : Nat} (h : ∀ x ∈ frs W, x.2 ≤ y) (hy : y < W.length * W.sum) : intervalT W y = W.length - 1 :=
  interval_n (Nat.le_refl _) (fun x hx => h x (List.mem_of_mem_take hx)) (by rw [frontT_all]; exact hy)
attribute [local go_sem] Oper.semAt_some
theorem interval_any (l : List ArcD) (y : Nat) (ao : Option Addr) (cap : Nat) (fp : Nat → Prop) (w : World) (hl : l.length ≤ 1000) (hs : sumA l ≤ 2147483647) (hy : y < totalM l) (hfp : ∀ b, fp b → b < w.heap.size) (hrd : RdS arcRep fp w ao l) :
    Calls Tryz.prog 115 #[.slice ao l.length cap, .int .u64 (y : Nat)] w (RetB (.tuple #[.int .i64 (intervalT (l.map (·.2)) y : Nat), .bool true]) w) := by
  have hit := fun b => (fronts_iter b l ao cap fp hl hs).toT
  have HT := Lib.hid (fun W (h : Below w.heap.size w W) => total_any l ao cap fp W (by omega) (hrd.ext h))
  have htt : totalM l ≤ sumA l * l.length := by unfold totalM; split <;> omega
  have hyw : y < (l.map (·.2)).length * (l.map (·.2)).sum := by rw [List.length_map, Nat.mul_comm]; exact Nat.lt_of_lt_of_le hy htt
  have hyb : y < 2147483647 * 1000 := Nat.lt_of_lt_of_le hy (Nat.le_trans htt (Nat.mul_le_mul hs hl))
  have hg : decide ((totalM l : Int) ≤ (y : Int)) = false := by simp; omega
  have hg2 : decide (totalM l ≤ y) = false := by simp; omega
  have Hyw := Lib.hid hyw
  have Hrd := Lib.hid hrd
  clear hrd htt hyw hy
  refine (callsIn_wide (n := 0)).1 (callsIn_of_wp_marks Tryz.func115 rfl trivial ?_)
  simp only [Tryz.ntmps115, List.size_toArray, List.length_cons, List.length_nil, Nat.reduceAdd, Nat.reduceSub, Array.replicate_succ, Array.replicate_zero, List.push_toArray, List.append_toArray, List.nil_append, List.cons_append]
  gi_wp2
  obtain ⟨w1, hw1⟩ : ∃ w1, w.alloc (Obj.cells #[Value.int IntKind.u64 (y : Nat)] 23) = w1 := ⟨_, rfl⟩
  have hs1 : w1.heap.size = w.heap.size + 1 := by rw [← hw1]; simp
  have hB1 : Below w.heap.size w w1 := by rw [← hw1]; exact ext_alloc w _
  have c1 : w1.cell? ⟨w.heap.size, 0, none⟩ = some (.int .u64 (y : Nat)) := by rw [← hw1]; simp
  rw [hw1]
  have HB1 := Lib.hid hB1
  clear hw1 hB1
  have HC := Lib.hid (HT.out w1.drew (HB1.out.trans ((ext_drew w1).mono (by omega))))
  refine wpIn_wide.2 ?_
  go_region_held3 (fun w' => w'.cell? ⟨w.heap.size, 0, none⟩ = some (.int .u64 (y : Nat))) (first | exact c1 | exact c2)
    (first
      | (go_at_call 53; refine HC.out.mono ?_; rintro e w2 ⟨rfl, hB⟩; have hB2 : Below w1.heap.size w1 w2 := (ext_drew w1).trans hB; have c2 := ((bcell hB2).1 w.heap.size 0 (by omega)).trans c1; have B2 := Lib.hid hB2; clear hB hB2)
      | fail "no arm")
  have hs2 := B2.out.size
  have hB02 : Below w.heap.size w w2 := HB1.out.trans (B2.out.mono (by omega))
  have HB02 := Lib.hid hB02
  clear hB02 c1 HC
  gi_wp2_with (gi_at_call 144; refine (callsIn_wide.2 (fronts_any _ _ _ _)).mono ?_; rintro e w2 ⟨rfl, rfl⟩)
  clear hg hg2
  obtain ⟨w3, hw3⟩ : ∃ w3, ((w2.alloc (Obj.cells #[Value.int IntKind.i64 0] 3)).alloc (Obj.cells #[.slice ao l.length cap] 49)) = w3 := ⟨_, rfl⟩
  have hs3 : w3.heap.size = w2.heap.size + 2 := by rw [← hw3]; simp
  have hB3 : Below w2.heap.size w2 w3 := by rw [← hw3]; exact (ext_alloc w2 _).alloc (by simp) _
  have c4 : w3.cell? ⟨w2.heap.size + 1, 0, none⟩ = some (.slice ao l.length cap) := by rw [← hw3]; simp [go_sem, ↓IntWalk.iteOmega]
  have hI0 : ivI w.heap.size w2.heap.size y [] (fun b => b = w.heap.size ∨ b = w2.heap.size) w3 := by
    rw [← hw3]
    have hne : ¬ w.heap.size = w2.heap.size + 1 := by omega
    have hne2 : ¬ w.heap.size = w2.heap.size := by omega
    exact ⟨by simp, by simp [go_sem, ↓IntWalk.iteOmega, hne, hne2, c2], by simp [go_sem, ↓IntWalk.iteOmega], by simp only [go_sem]; simp, .inl rfl, .inr rfl⟩
  rw [hw3]
  have HB3 := Lib.hid (HB02.out.trans (hB3.mono (by omega)))
  have HI0 := Lib.hid hI0
  clear hw3 hB3 hI0
  refine wpIn_rangeTS (gf := 157) (lb := #[.pointer (some ⟨w2.heap.size + 1, 0, none⟩)]) rfl (enters_of Tryz.func157 (by kernel_rfl) rfl) (hit _) (fun _ => rfl)
    (fun b => b = w.heap.size ∨ b = w2.heap.size) ?hfp ?hrs (fun k h => h.elim)
    (fun pre fq W => ivI w.heap.size w2.heap.size y pre fq W) (fun c pre fq W => ivX w.heap.size w2.heap.size y c pre fq W) ?hI ?hIx (fun _ _ _ _ => trivial) ?hPre HI0.out
    [(15, fun x : Nat × Nat => .int .i64 (x.1 : Nat)), (16, fun x => .int .u64 (x.2 : Nat)), (7, fun x => .int .i64 (x.1 : Nat)), (8, fun x => .int .u64 (x.2 : Nat))] ?assign ?body ?done ?stop
  case hfp =>
    intro b hb
    refine ⟨by omega, fun h => ?_⟩
    rcases h with h | h
    · omega
    · have := hfp b h; omega
  case hrs =>
    rintro b (h | h)
    · omega
    · have := hfp b h; omega
  case hI =>
    rintro pre fq A B ⟨h0, h1, h2, h3, h4, h5⟩ hs
    exact ⟨h0, (hs.cell h4 0).trans h1, (hs.cell h5 0).trans h2, (hs.frozen h5 0).trans h3, h4, h5⟩
  case hIx =>
    rintro c pre fq A B ⟨rfl, h1, q, x, h3, h4, h5, h6⟩ hs
    exact ⟨rfl, h1, q, x, h3, h4, h5, (hs.cell h1 0).trans h6⟩
  case hPre =>
    intro W hb
    have hsz := hb.size
    exact ⟨((bcell hb).1 _ 0 (by omega)).trans c4, (Hrd.out.ext HB3.out).ext hb⟩
  case assign =>
    intro l0 x W K hK
    gi_wp2
    exact hK
  case body =>
    rintro l0 pre fq tp x W Wy hl0 hr0 honly hokk - ho0 hnl hflt htp ⟨h0, h1, h2, h3, h4, h5⟩ hsz
    simp only [List.foldl_cons, List.foldl_nil, List.setIfInBounds_toArray, List.set_cons_zero, List.set_cons_succ]
    have hxi : x.1 = pre.length := by
      have hl := hokk.length_le
      rw [frs_len, List.length_append, List.length_singleton] at hl
      have e := List.prefix_iff_eq_take.1 hokk
      rw [List.length_append, List.length_singleton, frs_snoc (by omega)] at e
      rw [List.singleton_inj.1 (List.append_inj' e rfl).2]
    have H0 := Lib.hid h0
    have Hflt := Lib.hid hflt
    clear hit hr0 honly hokk ho0 hnl hflt htp HI0 h0
    by_cases hx : y < x.2
    · have hd : decide ((y : Int) < (x.2 : Int)) = true := by simp; omega
      have hd2 : decide (y < x.2) = true := by simp; omega
      gi_wp2_with fail
      refine ⟨fq, ⟨Only.refl fq W, fun b hb => ⟨.inl hb, Hflt.out b hb⟩⟩, rfl, h5, pre, x, rfl, H0.out, hx, h2⟩
    · have hd : decide ((y : Int) < (x.2 : Int)) = false := by simp; omega
      have hd2 : decide (y < x.2) = false := by simp; omega
      gi_wp2_with fail
      refine ⟨fq, ⟨(Only.refl fq W).setCell (fun _ => h5) _, fun b hb => ⟨.inl hb, by simpa using Hflt.out b hb⟩⟩, fun z hz => ?_, ?_, by simp [cell_set_ite, h2, hxi], by rw [World.frozen?_setCell]; exact h3, h4, h5⟩
      · rcases List.mem_append.1 hz with h | h
        · exact H0.out z h
        · rw [List.mem_singleton.1 h]; omega
      · have hne : ¬ w.heap.size = w2.heap.size := by omega
        simp [cell_set_ite, hne, h1]
  case done =>
    rintro D xs fq W hD hxs ⟨h0, h1, h2, -⟩ honly hfo hlt hnD hk2
    subst hxs
    have hbW : Below w.heap.size w W := HB3.out.trans (honly.below (by omega) (by rintro b hb (h | h) <;> first | omega | exact h))
    have hiv := interval_last h0 Hyw.out
    rw [frs_len] at h2
    gi_wp2
    refine leaveM1 (v := .tuple #[.int .i64 (intervalT (l.map (·.2)) y : Nat), .bool true]) hk2 ?_ ⟨rfl, ext_put hbW (by omega)⟩
    rw [hiv]
    simp [results, Tryz.results115, go_sem]
  case stop =>
    rintro D c xs fq W hD hokk ⟨rfl, q1, pre, x, rfl, h0, hx, h2⟩ honly hfo hlt hnD hk2
    have hbW : Below w.heap.size w W := HB3.out.trans (honly.below (by omega) (by rintro b hb (h | h) <;> first | omega | exact h))
    have hiv := interval_stop hokk h0 hx
    gi_wp2
    refine leaveM1 (v := .tuple #[.int .i64 (intervalT (l.map (·.2)) y : Nat), .bool true]) hk2 ?_ ⟨rfl, ext_put hbW (by omega)⟩
    rw [hiv]
    simp [results, Tryz.results115, go_sem]
end Go.Proofs.YtcklfffeimnfeaaGreat

namespace Go.Proofs.YtcklfffeimnfeaaGreat
open Go.RowKit

def aliasV : Option Nat → Value
  | none => .tuple #[.int .i64 0, .bool false]
  | some i => .tuple #[.int .i64 (i : Nat), .bool true]
theorem alias_any (l : List ArcD) (t : List CellD) (x : Nat) (hx : x < 18446744073709551616) (ao bo : Option Addr) (ca cb : Nat) (fp fq : Nat → Prop) (w : World) (hl : l.length ≤ 100000) (htl : t.length ≤ 100000) (hrd : RdS arcRep fp w ao l) (hrt : RdS cellRep fq w bo t) :
    Calls Tryz.prog 50 #[.slice ao l.length ca, .slice bo t.length cb, .int .u64 (x : Nat)] w (RetB (aliasV (aliasM l t x)) w) := by
  have HT := Lib.hid (fun W (h : Below w.heap.size w W) => total_any l ao ca fp W hl (hrd.ext h))
  have HS := Lib.hid (fun W (h : Below w.heap.size w W) => gsum_any l ao ca fp W (by omega) (hrd.ext h))
  by_cases hlt : l.length = t.length
  case neg =>
    have hv : aliasM l t x = none := by unfold aliasM; rw [if_pos (.inl hlt)]
    have d1 : (l.length != t.length) = true := bne_iff_ne.2 hlt
    have d1' : ((l.length : Int) != (t.length : Int)) = true := bne_iff_ne.2 (by omega)
    rw [hv]
    clear hv hlt hrd hrt
    go_enter Tryz.func50, Tryz.ntmps50
    go_wp2_with fail
    go_ret2
    exact ⟨rfl, Below.refl _ _⟩
  have d1 : (l.length != l.length) = false := bne_eq_false_iff_eq.2 rfl
  have d1' : ((l.length : Int) != (l.length : Int)) = false := bne_eq_false_iff_eq.2 rfl
  rw [← hlt]
  by_cases hxt : totalM l ≤ x
  · have hv : aliasM l t x = none := by unfold aliasM; rw [if_pos (.inr hxt)]
    have d2 : decide (totalM l ≤ x) = true := decide_eq_true hxt
    have d2' : decide ((totalM l : Int) ≤ (x : Int)) = true := decide_eq_true (by omega)
    rw [hv]
    clear hv hrd hrt hxt hlt
    generalize totalM l = tot at *
    go_enter Tryz.func50, Tryz.ntmps50
    go_wp2_with (go_at_call 53; (with_reducible refine (HT.out _ (Below.refl _ _)).mono ?_); rintro e w1 ⟨rfl, hB⟩; have B1 := Lib.hid hB; clear hB)
    go_ret2
    exact ⟨rfl, B1.out⟩
  have hma : mayA l = true := by
    cases e : mayA l with
    | true => rfl
    | false => exact absurd (Nat.zero_le x) (by unfold totalM at hxt; rw [e] at hxt; simp at hxt)
  have htot : totalM l = sumA l * l.length := by unfold totalM; rw [if_pos hma]
  have hs2 := (of_decide_eq_true hma).2.2
  have hs0 : 0 < sumA l := by
    rcases Nat.eq_zero_or_pos (sumA l) with h | h
    · rw [htot, h] at hxt; simp at hxt
    · exact h
  have hqt : x / sumA l < t.length := by
    rw [Nat.div_lt_iff_lt_mul hs0, ← hlt, Nat.mul_comm]
    rw [htot] at hxt; omega
  have d2 : decide (totalM l ≤ x) = false := decide_eq_false hxt
  have d2' : decide ((totalM l : Int) ≤ (x : Int)) = false := decide_eq_false (by omega)
  have hav : aliasM l t x = (if x % sumA l < t[x / sumA l]!.1 then some (x / sumA l) else if t[x / sumA l]!.2 < l.length then some t[x / sumA l]!.2 else none) := by
    unfold aliasM
    rw [if_neg (by omega)]
  rw [getElem!_pos t _ hqt] at hav
  obtain ⟨b, off, rfl, hb, hc0, hc1, hok⟩ := hrt.cel _ hqt
  obtain ⟨c, hc⟩ : ∃ c, t[x / sumA l]'hqt = c := ⟨_, rfl⟩
  rw [hc] at hc0 hc1 hok hav
  clear hc
  obtain ⟨c0, c1⟩ := c
  simp only at hc0 hc1 hav
  have hok1 : c0 < 18446744073709551616 := hok.1
  have hok2 : c1 < 4294967296 := hok.2
  have e1 : Int.tdiv (x : Int) (sumA l : Int) = ((x / sumA l : Nat) : Int) := rfl
  have e2 : (x : Int) / (sumA l : Int) = ((x / sumA l : Nat) : Int) := rfl
  have e3 : Int.tmod (x : Int) (sumA l : Int) = ((x % sumA l : Nat) : Int) := rfl
  have e4 : (x : Int) % (sumA l : Int) = ((x % sumA l : Nat) : Int) := rfl
  have hr : x % sumA l < sumA l := Nat.mod_lt _ hs0
  have hle := totalM_le hl
  have hB0 := Lib.hid (fun W (h : Below w.heap.size w W) => (show W.cell? ⟨b, off + x / sumA l * 2, none⟩ = some (.int .u64 (c0 : Nat)) ∧ W.cell? ⟨b, off + x / sumA l * 2 + 1, none⟩ = some (.int .u32 (c1 : Nat)) from ⟨((bcell h).1 _ _ hb).trans hc0, ((bcell h).1 _ _ hb).trans hc1⟩))
  clear hrd hrt hma htot hxt hc0 hc1 hok
  generalize totalM l = tot at *
  generalize sumA l = s at *
  generalize x / s = q at *
  generalize x % s = r at *
  rw [← hlt] at hqt
  clear hlt
  have hqi : (q : Int) < (l.length : Int) := by omega
  have hq5 : q ≤ 100000 := by omega
  have hs1 : (1 : Int) ≤ (s : Int) := by omega
  have w1 : IntKind.u64.wrap (q : Int) = (q : Int) := IntWalk.u64_in _ (by omega)
  have w2 : IntKind.u64.wrap (r : Int) = (r : Int) := IntWalk.u64_in _ (by omega)
  have w3 : IntKind.i64.wrap (q : Int) = (q : Int) := IntWalk.i64_in _ (by omega)
  have w4 : IntKind.i64.wrap (c1 : Int) = (c1 : Int) := IntWalk.i64_in _ (by omega)
  have Hav := Lib.hid hav
  clear hav
  by_cases hrc : r < c0
  · have g1 : decide (r < c0) = true := decide_eq_true hrc
    have g1' : decide ((r : Int) < (c0 : Int)) = true := decide_eq_true (by omega)
    rw [if_pos hrc] at Hav
    clear hrc
    go_enter Tryz.func50, Tryz.ntmps50
    go_wp2_with (first
      | (go_at_call 53; (with_reducible refine (HT.out _ (Below.refl _ _)).mono ?_); rintro e w5 ⟨rfl, hB⟩; have B1 := Lib.hid hB; clear hB)
      | (go_at_call 84; (with_reducible refine (HS.out _ B1.out).mono ?_); rintro e w6 ⟨rfl, hB⟩; have hB2 := B1.out.trans (hB.mono B1.out.size); obtain ⟨k0, k1⟩ := hB0.out _ hB2; have B2 := Lib.hid hB2; clear hB hB2))
    go_quiet (fail)
    go_wp2_with fail
    go_ret2
    refine ⟨by rw [Hav.out]; rfl, below_drewN (B2.out.alloc B2.out.size _) _⟩
  · have g1 : decide (r < c0) = false := decide_eq_false hrc
    have g1' : decide ((r : Int) < (c0 : Int)) = false := decide_eq_false (by omega)
    rw [if_neg hrc] at Hav
    clear hrc
    by_cases hol : c1 < l.length
    · have o1 : decide (c1 < l.length) = true := decide_eq_true hol
      have o1' : decide ((c1 : Int) < (l.length : Int)) = true := decide_eq_true (by omega)
      rw [if_pos hol] at Hav
      clear hol
      go_enter Tryz.func50, Tryz.ntmps50
      go_wp2_with (first
        | (go_at_call 53; (with_reducible refine (HT.out _ (Below.refl _ _)).mono ?_); rintro e w5 ⟨rfl, hB⟩; have B1 := Lib.hid hB; clear hB)
        | (go_at_call 84; (with_reducible refine (HS.out _ B1.out).mono ?_); rintro e w6 ⟨rfl, hB⟩; have hB2 := B1.out.trans (hB.mono B1.out.size); obtain ⟨k0, k1⟩ := hB0.out _ hB2; have B2 := Lib.hid hB2; clear hB hB2))
      go_quiet (fail)
      go_wp2_with fail
      go_ret2
      refine ⟨by rw [Hav.out]; rfl, below_drewN (B2.out.alloc B2.out.size _) _⟩
    · have o1 : decide (c1 < l.length) = false := decide_eq_false hol
      have o1' : decide ((c1 : Int) < (l.length : Int)) = false := decide_eq_false (by omega)
      rw [if_neg hol] at Hav
      clear hol
      go_enter Tryz.func50, Tryz.ntmps50
      go_wp2_with (first
        | (go_at_call 53; (with_reducible refine (HT.out _ (Below.refl _ _)).mono ?_); rintro e w5 ⟨rfl, hB⟩; have B1 := Lib.hid hB; clear hB)
        | (go_at_call 84; (with_reducible refine (HS.out _ B1.out).mono ?_); rintro e w6 ⟨rfl, hB⟩; have hB2 := B1.out.trans (hB.mono B1.out.size); obtain ⟨k0, k1⟩ := hB0.out _ hB2; have B2 := Lib.hid hB2; clear hB hB2))
      go_quiet (fail)
      go_wp2_with fail
      go_ret2
      refine ⟨by rw [Hav.out]; rfl, below_drewN (B2.out.alloc B2.out.size _) _⟩
end Go.Proofs.YtcklfffeimnfeaaGreat

namespace Go.Proofs.YtcklfffeimnfeaaGreat
open Go.RowKit

def encP (x : Nat × Nat) : Array Value := #[.agg #[.int .u64 (x.1 : Nat), .int .u64 (x.2 : Nat)]]
def pc1 (ww tv k : Nat) (c : Nat × Nat) : List (Nat × Nat) := if k = tv ∧ 0 < c.1 then [(k * ww, c.1)] else []
def pc2 (ww tv k : Nat) (c : Nat × Nat) : List (Nat × Nat) := if c.2 = tv ∧ c.1 < ww then [(k * ww + c.1, ww - c.1)] else []
theorem pieces_cons (ww tv k : Nat) (c : Nat × Nat) (T : List (Nat × Nat)) : piecesT ww tv k (c :: T) = pc1 ww tv k c ++ pc2 ww tv k c ++ piecesT ww tv (k + 1) T := rfl
theorem pieces_app (ww tv : Nat) : ∀ (A B : List (Nat × Nat)) (k : Nat), piecesT ww tv k (A ++ B) = piecesT ww tv k A ++ piecesT ww tv (k + A.length) B
  | [], B, k => by simp [piecesT]
  | c :: A, B, k => by
    rw [List.cons_append, pieces_cons, pieces_cons, pieces_app ww tv A B (k + 1), List.append_assoc, List.append_assoc, List.append_assoc, List.length_cons, show k + 1 + A.length = k + (A.length + 1) by omega]
theorem pieces_take {ww tv k : Nat} {T : List (Nat × Nat)} (h : k < T.length) : piecesT ww tv 0 (T.take (k + 1)) = piecesT ww tv 0 (T.take k) ++ pc1 ww tv k T[k] ++ pc2 ww tv k T[k] := by
  rw [List.take_succ_eq_append_getElem h, pieces_app, List.length_take, Nat.min_eq_left (Nat.le_of_lt h), Nat.zero_add, pieces_cons]
  simp [piecesT]
theorem pieces_pre (ww tv k : Nat) (T : List (Nat × Nat)) : piecesT ww tv 0 (T.take k) <+: piecesT ww tv 0 T := by
  conv => rhs; rw [← List.take_append_drop k T]
  rw [pieces_app]
  exact List.prefix_append _ _
def pcRel (T : List (Nat × Nat)) (ww tv : Nat) (J : List (Nat × Nat) → (Nat → Prop) → World → Prop) (fp : Nat → Prop) (W : World) (i : Value) (wr : World) : Prop :=
  ∃ (pre : List (Nat × Nat)) (fp1 : Nat → Prop) (k : Nat), i = .int .i64 k ∧ k ≤ T.length ∧ pre = piecesT ww tv 0 (T.take k) ∧ J pre fp1 wr ∧ Fwd (fun k => fp k ∨ False) fp1 W wr ∧ (∀ k, fp1 k → fp k ∨ W.heap.size ≤ k)
attribute [local go_sem] Oper.semAt_some
theorem pieces_iter (b1 b2 b3 : Nat) (T : List (Nat × Nat)) (ww tv : Nat) (ao : Option Addr) (cap : Nat) (rfp : Nat → Prop) (hl : T.length ≤ 1000) (hww : ww ≤ 2147483647) (htv : tv < 1000) (hcw : ∀ c ∈ T, c.1 ≤ ww) :
    IterR Tryz.prog 156 #[.pointer (some ⟨b1, 0, none⟩), .pointer (some ⟨b2, 0, none⟩), .pointer (some ⟨b3, 0, none⟩)] encP (fun pre => pre <+: piecesT ww tv 0 T) (fun xs => xs = piecesT ww tv 0 T) (fun _ => True)
      (fun _ _ _ => True)
      (fun W => W.cell? ⟨b1, 0, none⟩ = some (.slice ao T.length cap) ∧ W.cell? ⟨b2, 0, none⟩ = some (.int .u64 (ww : Nat)) ∧ W.cell? ⟨b3, 0, none⟩ = some (.int .i64 (tv : Nat)) ∧ RdS cellRep rfp W ao T) (fun k => k = b1 ∨ k = b2 ∨ k = b3 ∨ rfp k) (fun _ => False) := by
  rintro ly J Jx fp W ⟨hc, hc2, hc3, hrd⟩ hfp hJ hJx _ hY h0
  have hb2 : b2 < W.heap.size := World.block_lt_of_cell? W _ hc2
  have hb3 : b3 < W.heap.size := World.block_lt_of_cell? W _ hc3
  have HJ := Lib.hid hJ
  have HY := Lib.hid hY
  have H0 : Hid (pcRel T ww tv J fp W (.int .i64 0) W) := ⟨[], fp, 0, rfl, by omega, by simp [piecesT], h0, (Fwd.refl (fun k hk => (hfp k hk).1)).wider (fun k hk => .inl hk), fun k hk => .inl hk⟩
  have Hfp := Lib.hid hfp
  have Hc2 := Lib.hid hc2
  have Hc3 := Lib.hid hc3
  have Hrd := Lib.hid hrd
  have Hcw := Lib.hid hcw
  clear hJ hJx hY h0 hfp hc2 hc3 hrd hcw
  refine callsIn_of_wp Tryz.func156 rfl trivial ?_
  simp only [Tryz.ntmps156, List.size_toArray, List.length_cons, List.length_nil, Nat.reduceAdd, Nat.reduceSub, Array.replicate_succ, Array.replicate_zero, List.push_toArray, List.append_toArray, List.nil_append, List.cons_append]
  gi_wp2_with fail
  clear hc
  gi_loopw [10] (fun i wr => pcRel T ww tv J fp W i wr) (fun i _ => T.length - (intOf i).toNat)
  case atStart => exact H0.out
  case round =>
    obtain ⟨pre, fp1, k, rfl, hk, hpre, hj, hfw, hfo⟩ := hrel
    have hon : ∀ j, (j = b1 ∨ j = b2 ∨ j = b3 ∨ rfp j) → ¬ (fp j ∨ False) := fun j hj h => h.elim (fun h => (Hfp.out j h).2 hj) id
    have hrd := Hrd.out.only hfw.only (fun j hj _ => hon j (.inr (.inr (.inr hj))))
    have x2 := (hfw.only.cell hb2 (hon b2 (.inr (.inl rfl))) 0).trans Hc2.out
    have x3 := (hfw.only.cell hb3 (hon b3 (.inr (.inr (.inl rfl)))) 0).trans Hc3.out
    have hn2 : ¬ fp1 b2 := fun h => (hfo b2 h).elim (fun h => (Hfp.out b2 h).2 (.inr (.inl rfl))) (fun h => by omega)
    have hn3 : ¬ fp1 b3 := fun h => (hfo b3 h).elim (fun h => (Hfp.out b3 h).2 (.inr (.inr (.inl rfl)))) (fun h => by omega)
    have hnx : ¬ fp1 wr.heap.size := fun h => by have := (hfw.own _ h).2; omega
    have hsz := hfw.only.size
    have Hj := Lib.hid hj
    have Hfw := Lib.hid hfw
    have Hfo := Lib.hid hfo
    have Hpre := Lib.hid hpre
    clear hj hfw hfo hpre hon
    by_cases hlt : k < T.length
    · obtain ⟨ba, off, rfl, hba, a0, a1, hok⟩ := hrd.cel k hlt
      have hcw := Hcw.out T[k] (List.getElem_mem hlt)
      have Hsn := Lib.hid (pieces_take (ww := ww) (tv := tv) hlt)
      obtain ⟨X, hX⟩ : ∃ X, T[k] = X := ⟨_, rfl⟩
      rw [hX] at a0 a1 hok hcw Hsn
      obtain ⟨X0, X1⟩ := X
      simp only at a0 a1 hcw
      have hx1 : X1 < 4294967296 := hok.2
      have hir : (k : Int) < (T.length : Int) := by omega
      obtain ⟨q, hq⟩ : ∃ q, k * ww = q := ⟨_, rfl⟩
      have hqb : q ≤ 1000 * 2147483647 := by rw [← hq]; exact Nat.mul_le_mul (by omega) hww
      have hqz : (k : Int) * (ww : Int) = (q : Nat) := by rw [← hq]; simp
      have hqw : IntKind.u64.wrap ((k : Int) * (ww : Int)) = (q : Nat) := by rw [hqz, u64_mod]; omega
      have hkw : IntKind.u64.wrap (k : Int) = (k : Int) := by rw [u64_mod]; omega
      obtain ⟨p1, hp1⟩ : ∃ p1, k * ww + X0 = p1 := ⟨_, rfl⟩
      obtain ⟨m, hm⟩ : ∃ m, ww - X0 = m := ⟨_, rfl⟩
      have Hq := Lib.hid hq
      have Hp1 := Lib.hid hp1
      have Hm := Lib.hid hm
      clear hrd hok hX hqz hq hp1 hm
      obtain ⟨wb, hwb⟩ : ∃ wb, wr.alloc (.cells #[.int .u64 (X0 : Nat), .int .u32 (X1 : Nat)] 108) = wb := ⟨_, rfl⟩
      have hbb : Below wr.heap.size wr wb := by rw [← hwb]; exact ext_alloc wr _
      have hwz : wb.heap.size = wr.heap.size + 1 := by rw [← hwb]; simp
      have y0 : wb.cell? ⟨wr.heap.size, 0, none⟩ = some (.int .u64 (X0 : Nat)) := by rw [← hwb]; simp
      have y1 : wb.cell? ⟨wr.heap.size, 1, none⟩ = some (.int .u32 (X1 : Nat)) := by rw [← hwb]; simp [go_sem]
      have y2 := ((bcell hbb).1 b2 0 (by omega)).trans x2
      have y3 := ((bcell hbb).1 b3 0 (by omega)).trans x3
      have Hjb := Lib.hid (J_ext HJ.out Hj.out (fun k hk => (Hfw.out.own k hk).2) hbb)
      have Hfb := Lib.hid (Hfw.out.ext hbb)
      have Hbb := Lib.hid hbb
      clear hbb
      by_cases hkt : k = tv
      · have dk : ((k : Int) == (tv : Int)) = true := by simp; omega
        by_cases hx0 : 0 < X0
        · have d0 : decide ((0 : Int) < (X0 : Int)) = true := by simp; omega
          have d0' : decide (0 < X0) = true := by simp; omega
          have Hpc1 := Lib.hid (show pc1 ww tv k (X0, X1) = [(q, X0)] by unfold pc1; rw [if_pos ⟨hkt, hx0⟩, ← Hq.out])
          clear hkt
          obtain ⟨fn, tmps, assign, body, hy, hR⟩ := HY.out pre fp1 (q, X0) wb Hjb.out (fun k hk => Nat.lt_of_lt_of_le (Hfw.out.own k hk).2 Hbb.out.size) Hfb.out.only
            (by rw [Hpre.out, ← Hpc1.out]; refine List.IsPrefix.trans ?_ (pieces_pre ww tv (k + 1) T); rw [Hsn.out]; exact List.prefix_append _ _) trivial
          have HR := Lib.hid hR
          clear hR
          dsimp only [encP] at hy
          gi_wp2_with fail
          refine HR.out.mono ?_
          clear hy HR
          rintro e wq ⟨fpq, hfw2, (⟨rfl, hj2⟩ | ⟨rfl, hjx2⟩)⟩
          · have y0 := (hfw2.only.cell (b := wr.heap.size) (by omega) hnx 0).trans y0
            have y1 := (hfw2.only.cell (b := wr.heap.size) (by omega) hnx 1).trans y1
            have y2 := (hfw2.only.cell (b := b2) (by omega) hn2 0).trans y2
            have y3 := (hfw2.only.cell (b := b3) (by omega) hn3 0).trans y3
            obtain ⟨prq, hprq⟩ : ∃ prq, pre ++ [(q, X0)] = prq := ⟨_, rfl⟩
            rw [hprq] at hj2
            have Hjq := Lib.hid hj2
            have Hfq := Lib.hid (Hfb.out.trans hfw2)
            have Hoq := Lib.hid (fun k (hk : fpq k) => ((hfw2.own k hk).1).elim (Hfo.out k) (fun h => (.inr (Nat.le_trans Hfb.out.only.size h) : fp k ∨ W.heap.size ≤ k)))
            have Hpq := Lib.hid (show prq = piecesT ww tv 0 (T.take k) ++ pc1 ww tv k (X0, X1) by rw [← hprq, Hpre.out, Hpc1.out])
            clear hprq hj2 hfw2
            by_cases ho : X1 = tv
            · have dh : ((X1 : Int) == (tv : Int)) = true := by simp; omega
              by_cases hc : X0 < ww
              · have dc : decide ((X0 : Int) < (ww : Int)) = true := by simp; omega
                have dc2 : decide (X0 < ww) = true := by simp; omega
                have Hp2 := Lib.hid (show pc2 ww tv k (X0, X1) = [(p1, m)] by unfold pc2; rw [if_pos ⟨ho, hc⟩, ← Hp1.out, ← Hm.out])
                clear ho
                have h1 : (q : Int) + (X0 : Int) = (p1 : Nat) := by have := Hp1.out; have := Hq.out; omega
                have h2 : (ww : Int) - (X0 : Int) = (m : Nat) := by have := Hm.out; omega
                obtain ⟨fn, tmps, assign, body, hy, hR⟩ := HY.out prq fpq (p1, m) wq Hjq.out (fun k hk => (Hfq.out.own k hk).2) Hfq.out.only
                  (by rw [Hpq.out, ← Hp2.out, ← Hsn.out]; exact pieces_pre _ _ _ _) trivial
                have HR := Lib.hid hR
                clear hR
                dsimp only [encP] at hy
                rw [← h1, ← h2] at hy
                clear h1 h2
                gi_wp2_with fail
                refine HR.out.mono ?_
                clear hy HR
                rintro e W5 ⟨fp5, hfw5, (⟨rfl, hj5⟩ | ⟨rfl, hjx5⟩)⟩
                · have Hj5 := Lib.hid hj5
                  have Hfw5 := Lib.hid hfw5
                  clear hj5 hfw5
                  gi_wp2_with fail
                  go_roundw
                  case rel => exact ⟨prq ++ [(p1, m)], fp5, k + 1, by go_num, by omega, by rw [Hsn.out]; (rw [Hpq.out, Hp2.out]), Hj5.out, (Hfq.out.trans Hfw5.out), (fun k hk => ((Hfw5.out.own k hk).1).elim (Hoq.out k) (fun h => .inr (Nat.le_trans Hfq.out.only.size h)))⟩
                  case measure => simp [intOf]; omega
                · have Hjx5 := Lib.hid hjx5
                  have Hfw5 := Lib.hid hfw5
                  clear hjx5 hfw5
                  gi_wp2_with fail
                  refine bodyPost_ret (results_none rfl _ _ _) rfl ?_
                  exact ⟨⟨_, rfl⟩, prq ++ [(p1, m)], fp5, Hfq.out.trans Hfw5.out, (fun k hk => ((Hfw5.out.own k hk).1).elim (Hoq.out k) (fun h => .inr (Nat.le_trans Hfq.out.only.size h))),
                    .inr ⟨by rw [Hpq.out, ← Hp2.out, ← Hsn.out]; exact pieces_pre _ _ _ _, Hjx5.out⟩⟩
              · have dc : decide ((X0 : Int) < (ww : Int)) = false := by simp; omega
                have dc2 : decide (X0 < ww) = false := by simp; omega
                have Hp2 := Lib.hid (show pc2 ww tv k (X0, X1) = [] by unfold pc2; rw [if_neg (fun h => hc h.2)])
                clear ho
                gi_wp2_with fail
                go_roundw
                case rel => exact ⟨prq, fpq, k + 1, by go_num, by omega, by rw [Hsn.out]; (rw [Hpq.out, Hp2.out, List.append_nil]), Hjq.out, Hfq.out, Hoq.out⟩
                case measure => simp [intOf]; omega
            · have dh : ((X1 : Int) == (tv : Int)) = false := by simp; omega
              have Hp2 := Lib.hid (show pc2 ww tv k (X0, X1) = [] by unfold pc2; rw [if_neg (fun h => ho h.1)])
              gi_wp2_with fail
              go_roundw
              case rel => exact ⟨prq, fpq, k + 1, by go_num, by omega, by rw [Hsn.out]; (rw [Hpq.out, Hp2.out, List.append_nil]), Hjq.out, Hfq.out, Hoq.out⟩
              case measure => simp [intOf]; omega
          · have Hjx2 := Lib.hid hjx2
            have Hfw2 := Lib.hid hfw2
            clear hjx2 hfw2
            gi_wp2_with fail
            refine bodyPost_ret (results_none rfl _ _ _) rfl ?_
            exact ⟨⟨_, rfl⟩, pre ++ [(q, X0)], fpq, Hfb.out.trans Hfw2.out, (fun k hk => ((Hfw2.out.own k hk).1).elim (Hfo.out k) (fun h => .inr (Nat.le_trans Hfb.out.only.size h))),
              .inr ⟨by rw [Hpre.out, ← Hpc1.out]; refine List.IsPrefix.trans ?_ (pieces_pre ww tv (k + 1) T); rw [Hsn.out]; exact List.prefix_append _ _, Hjx2.out⟩⟩
        · have d0 : decide ((0 : Int) < (X0 : Int)) = false := by simp; omega
          have d0' : decide (0 < X0) = false := by simp; omega
          have Hpc1 := Lib.hid (show pc1 ww tv k (X0, X1) = [] by unfold pc1; rw [if_neg (fun h => hx0 h.2)])
          clear hkt
          obtain ⟨wq, hwq⟩ : ∃ wq, wb = wq := ⟨_, rfl⟩
          obtain ⟨prq, hprq⟩ : ∃ prq, pre = prq := ⟨_, rfl⟩
          obtain ⟨fpq, hfpq⟩ : ∃ fpq, fp1 = fpq := ⟨_, rfl⟩
          have Hjq := Lib.hid (show J prq fpq wq by rw [← hprq, ← hfpq, ← hwq]; exact Hjb.out)
          have Hfq := Lib.hid (show Fwd (fun k => fp k ∨ False) fpq W wq by rw [← hfpq, ← hwq]; exact Hfb.out)
          have Hoq := Lib.hid (show ∀ k, fpq k → fp k ∨ W.heap.size ≤ k by rw [← hfpq]; exact Hfo.out)
          have Hpq := Lib.hid (show prq = piecesT ww tv 0 (T.take k) ++ pc1 ww tv k (X0, X1) by rw [← hprq, Hpc1.out, Hpre.out, List.append_nil])
          rw [hwq] at hwb y0 y1 y2 y3
          clear hprq hfpq
          by_cases ho : X1 = tv
          · have dh : ((X1 : Int) == (tv : Int)) = true := by simp; omega
            by_cases hc : X0 < ww
            · have dc : decide ((X0 : Int) < (ww : Int)) = true := by simp; omega
              have dc2 : decide (X0 < ww) = true := by simp; omega
              have Hp2 := Lib.hid (show pc2 ww tv k (X0, X1) = [(p1, m)] by unfold pc2; rw [if_pos ⟨ho, hc⟩, ← Hp1.out, ← Hm.out])
              clear ho
              have h1 : (q : Int) + (X0 : Int) = (p1 : Nat) := by have := Hp1.out; have := Hq.out; omega
              have h2 : (ww : Int) - (X0 : Int) = (m : Nat) := by have := Hm.out; omega
              obtain ⟨fn, tmps, assign, body, hy, hR⟩ := HY.out prq fpq (p1, m) wq Hjq.out (fun k hk => (Hfq.out.own k hk).2) Hfq.out.only
                (by rw [Hpq.out, ← Hp2.out, ← Hsn.out]; exact pieces_pre _ _ _ _) trivial
              have HR := Lib.hid hR
              clear hR
              dsimp only [encP] at hy
              rw [← h1, ← h2] at hy
              clear h1 h2
              gi_wp2_with fail
              refine HR.out.mono ?_
              clear hy HR
              rintro e W5 ⟨fp5, hfw5, (⟨rfl, hj5⟩ | ⟨rfl, hjx5⟩)⟩
              · have Hj5 := Lib.hid hj5
                have Hfw5 := Lib.hid hfw5
                clear hj5 hfw5
                gi_wp2_with fail
                go_roundw
                case rel => exact ⟨prq ++ [(p1, m)], fp5, k + 1, by go_num, by omega, by rw [Hsn.out]; (rw [Hpq.out, Hp2.out]), Hj5.out, (Hfq.out.trans Hfw5.out), (fun k hk => ((Hfw5.out.own k hk).1).elim (Hoq.out k) (fun h => .inr (Nat.le_trans Hfq.out.only.size h)))⟩
                case measure => simp [intOf]; omega
              · have Hjx5 := Lib.hid hjx5
                have Hfw5 := Lib.hid hfw5
                clear hjx5 hfw5
                gi_wp2_with fail
                refine bodyPost_ret (results_none rfl _ _ _) rfl ?_
                exact ⟨⟨_, rfl⟩, prq ++ [(p1, m)], fp5, Hfq.out.trans Hfw5.out, (fun k hk => ((Hfw5.out.own k hk).1).elim (Hoq.out k) (fun h => .inr (Nat.le_trans Hfq.out.only.size h))),
                  .inr ⟨by rw [Hpq.out, ← Hp2.out, ← Hsn.out]; exact pieces_pre _ _ _ _, Hjx5.out⟩⟩
            · have dc : decide ((X0 : Int) < (ww : Int)) = false := by simp; omega
              have dc2 : decide (X0 < ww) = false := by simp; omega
              have Hp2 := Lib.hid (show pc2 ww tv k (X0, X1) = [] by unfold pc2; rw [if_neg (fun h => hc h.2)])
              clear ho
              gi_wp2_with fail
              go_roundw
              case rel => exact ⟨prq, fpq, k + 1, by go_num, by omega, by rw [Hsn.out]; (rw [Hpq.out, Hp2.out, List.append_nil]), Hjq.out, Hfq.out, Hoq.out⟩
              case measure => simp [intOf]; omega
          · have dh : ((X1 : Int) == (tv : Int)) = false := by simp; omega
            have Hp2 := Lib.hid (show pc2 ww tv k (X0, X1) = [] by unfold pc2; rw [if_neg (fun h => ho h.1)])
            gi_wp2_with fail
            go_roundw
            case rel => exact ⟨prq, fpq, k + 1, by go_num, by omega, by rw [Hsn.out]; (rw [Hpq.out, Hp2.out, List.append_nil]), Hjq.out, Hfq.out, Hoq.out⟩
            case measure => simp [intOf]; omega
      · have dk : ((k : Int) == (tv : Int)) = false := by simp; omega
        have Hpc1 := Lib.hid (show pc1 ww tv k (X0, X1) = [] by unfold pc1; rw [if_neg (fun h => hkt h.1)])
        obtain ⟨wq, hwq⟩ : ∃ wq, wb = wq := ⟨_, rfl⟩
        obtain ⟨prq, hprq⟩ : ∃ prq, pre = prq := ⟨_, rfl⟩
        obtain ⟨fpq, hfpq⟩ : ∃ fpq, fp1 = fpq := ⟨_, rfl⟩
        have Hjq := Lib.hid (show J prq fpq wq by rw [← hprq, ← hfpq, ← hwq]; exact Hjb.out)
        have Hfq := Lib.hid (show Fwd (fun k => fp k ∨ False) fpq W wq by rw [← hfpq, ← hwq]; exact Hfb.out)
        have Hoq := Lib.hid (show ∀ k, fpq k → fp k ∨ W.heap.size ≤ k by rw [← hfpq]; exact Hfo.out)
        have Hpq := Lib.hid (show prq = piecesT ww tv 0 (T.take k) ++ pc1 ww tv k (X0, X1) by rw [← hprq, Hpc1.out, Hpre.out, List.append_nil])
        rw [hwq] at hwb y0 y1 y2 y3
        clear hprq hfpq
        by_cases ho : X1 = tv
        · have dh : ((X1 : Int) == (tv : Int)) = true := by simp; omega
          by_cases hc : X0 < ww
          · have dc : decide ((X0 : Int) < (ww : Int)) = true := by simp; omega
            have dc2 : decide (X0 < ww) = true := by simp; omega
            have Hp2 := Lib.hid (show pc2 ww tv k (X0, X1) = [(p1, m)] by unfold pc2; rw [if_pos ⟨ho, hc⟩, ← Hp1.out, ← Hm.out])
            clear ho
            have h1 : (q : Int) + (X0 : Int) = (p1 : Nat) := by have := Hp1.out; have := Hq.out; omega
            have h2 : (ww : Int) - (X0 : Int) = (m : Nat) := by have := Hm.out; omega
            obtain ⟨fn, tmps, assign, body, hy, hR⟩ := HY.out prq fpq (p1, m) wq Hjq.out (fun k hk => (Hfq.out.own k hk).2) Hfq.out.only
              (by rw [Hpq.out, ← Hp2.out, ← Hsn.out]; exact pieces_pre _ _ _ _) trivial
            have HR := Lib.hid hR
            clear hR
            dsimp only [encP] at hy
            rw [← h1, ← h2] at hy
            clear h1 h2
            gi_wp2_with fail
            refine HR.out.mono ?_
            clear hy HR
            rintro e W5 ⟨fp5, hfw5, (⟨rfl, hj5⟩ | ⟨rfl, hjx5⟩)⟩
            · have Hj5 := Lib.hid hj5
              have Hfw5 := Lib.hid hfw5
              clear hj5 hfw5
              gi_wp2_with fail
              go_roundw
              case rel => exact ⟨prq ++ [(p1, m)], fp5, k + 1, by go_num, by omega, by rw [Hsn.out]; (rw [Hpq.out, Hp2.out]), Hj5.out, (Hfq.out.trans Hfw5.out), (fun k hk => ((Hfw5.out.own k hk).1).elim (Hoq.out k) (fun h => .inr (Nat.le_trans Hfq.out.only.size h)))⟩
              case measure => simp [intOf]; omega
            · have Hjx5 := Lib.hid hjx5
              have Hfw5 := Lib.hid hfw5
              clear hjx5 hfw5
              gi_wp2_with fail
              refine bodyPost_ret (results_none rfl _ _ _) rfl ?_
              exact ⟨⟨_, rfl⟩, prq ++ [(p1, m)], fp5, Hfq.out.trans Hfw5.out, (fun k hk => ((Hfw5.out.own k hk).1).elim (Hoq.out k) (fun h => .inr (Nat.le_trans Hfq.out.only.size h))),
                .inr ⟨by rw [Hpq.out, ← Hp2.out, ← Hsn.out]; exact pieces_pre _ _ _ _, Hjx5.out⟩⟩
          · have dc : decide ((X0 : Int) < (ww : Int)) = false := by simp; omega
            have dc2 : decide (X0 < ww) = false := by simp; omega
            have Hp2 := Lib.hid (show pc2 ww tv k (X0, X1) = [] by unfold pc2; rw [if_neg (fun h => hc h.2)])
            clear ho
            gi_wp2_with fail
            go_roundw
            case rel => exact ⟨prq, fpq, k + 1, by go_num, by omega, by rw [Hsn.out]; (rw [Hpq.out, Hp2.out, List.append_nil]), Hjq.out, Hfq.out, Hoq.out⟩
            case measure => simp [intOf]; omega
        · have dh : ((X1 : Int) == (tv : Int)) = false := by simp; omega
          have Hp2 := Lib.hid (show pc2 ww tv k (X0, X1) = [] by unfold pc2; rw [if_neg (fun h => ho h.1)])
          gi_wp2_with fail
          go_roundw
          case rel => exact ⟨prq, fpq, k + 1, by go_num, by omega, by rw [Hsn.out]; (rw [Hpq.out, Hp2.out, List.append_nil]), Hjq.out, Hfq.out, Hoq.out⟩
          case measure => simp [intOf]; omega
    · obtain rfl : k = T.length := by omega
      clear hrd
      gi_wp2_with fail
      go_end0
      exact ⟨⟨_, rfl⟩, pre, fp1, Hfw.out, Hfo.out, .inl ⟨by rw [Hpre.out, List.take_length], Hj.out⟩⟩
end Go.Proofs.YtcklfffeimnfeaaGreat
