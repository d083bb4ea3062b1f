/- Texts merged into one: JTextU, JRefBeg, JRefRead. -/
import Derived.Test.YtmflopeedofkhaaByText
import Derived.Test.YtmflopeedofkhaaByRef
namespace Go.Proofs.Ytmflopeedofkhaa
set_option linter.unusedSimpArgs false
set_option linter.unusedVariables false
set_option maxRecDepth 100000

/-- words aren't empty -/
theorem wordsGo_ne19 : ∀ (l w : List UInt8), ∀ x ∈ wordsGo w l, x ≠ []
  | [], w, x, hx => by
    unfold wordsGo at hx
    split at hx <;> simp_all
  | c :: l, w, x, hx => by
    unfold wordsGo at hx
    split at hx
    · split at hx
      · exact wordsGo_ne19 l _ x hx
      · rcases List.mem_cons.1 hx with rfl | hx
        · assumption
        · exact wordsGo_ne19 l _ x hx
    · exact wordsGo_ne19 l _ x hx
theorem words_ne19 (l : List UInt8) : ∀ x ∈ words l, x ≠ [] := wordsGo_ne19 l []
theorem wordsGo_mem19 : ∀ (l p : List UInt8), ∀ x ∈ wordsGo p l, x.length ≤ p.length + l.length
  | [], p, x, hx => by
    unfold wordsGo at hx
    split at hx <;> simp_all
  | c :: l, p, x, hx => by
    unfold wordsGo at hx
    split at hx
    · split at hx
      · have := wordsGo_mem19 l _ x hx; simp at this ⊢; omega
      · rcases List.mem_cons.1 hx with rfl | hx
        · simp; try omega
        · have := wordsGo_mem19 l _ x hx; simp at this ⊢; omega
    · have := wordsGo_mem19 l _ x hx; simp at this ⊢; omega
theorem words_mem19 (l : List UInt8) : ∀ x ∈ words l, x.length ≤ l.length := fun x hx => by simpa using wordsGo_mem19 l [] x hx
theorem linesGo_mem19 : ∀ (l p : List UInt8), ∀ x ∈ linesGo p l, x.length ≤ p.length + l.length
  | [], p, x, hx => by
    unfold linesGo at hx
    split at hx <;> simp_all
  | c :: l, p, x, hx => by
    unfold linesGo at hx
    split at hx
    · rcases List.mem_cons.1 hx with rfl | hx
      · simp; try omega
      · have := linesGo_mem19 l _ x hx; simp at this ⊢; omega
    · have := linesGo_mem19 l _ x hx; simp at this ⊢; omega
theorem lines_mem19 (l : List UInt8) : ∀ x ∈ lines l, x.length ≤ l.length := fun x hx => by simpa using linesGo_mem19 l [] x hx
end Go.Proofs.Ytmflopeedofkhaa

namespace Go.Proofs.Ytmflopeedofkhaa
set_option linter.unusedSimpArgs false
set_option linter.unusedVariables false
set_option maxRecDepth 100000
open Go.RowKit

set_option maxHeartbeats 1600000 in
theorem rbegin19_any (w : World) : Calls Try.prog 24 #[] w (RetB (.agg (jobCs beginJ none 0)) w) := by
  go_enter Try.func24, Try.ntmps24
  go_wp2_with fail
  exact bodyPost_ret (results_cell_row rfl _ _ w.heap.size 30 _ (0, 0) _ rfl (heap_alloc_new w _) Try.underlying30 rfl (show _ = some 15 by kernel_rfl)) rfl ⟨rfl, ext_alloc w _⟩
set_option maxHeartbeats 1600000 in
theorem jbegin_any (w : World) : Calls Try.prog 40 #[] w (RetB (.agg (jobCs beginJ none 0)) w) := by
  go_enter Try.func40, Try.ntmps40
  go_wp2_with fail
  exact bodyPost_ret (results_cell_row rfl _ _ w.heap.size 30 _ (0, 0) _ rfl (heap_alloc_new w _) Try.underlying30 rfl (show _ = some 15 by kernel_rfl)) rfl ⟨rfl, ext_alloc w _⟩
theorem results_cell_tmp2 {fn : Func} {p u v : Tmp} {ty : TypeId} (h : fn.results = #[.cell p ty, .tmp u, .tmp v]) (tmps : Array Value) (P : Program) (w : World) :
    (results fn tmps).run P w = ((asAddr (tmps.getD p undef)).run P w).andThen fun a w₁ => ((loadVar ty a).run P w₁).andThen fun x w₂ => .ok (.tuple #[x, tmps.getD u undef, tmps.getD v undef]) w₂ := by
  simp only [results, h]
  simp [Sem.run_bind, Result.andThen]
theorem results_row_tmp2 {P : Program} {fn : Func} {p u v : Tmp} {ty : TypeId} (h : fn.results = #[.cell p ty, .tmp u, .tmp v]) (tmps : Array Value) (w : World) (g : Nat) (t : TypeId) (cs : Array Value) (fr : Nat × Nat) (d : TypeDesc)
    (hp : tmps.getD p undef = .pointer (some ⟨g, 0, none⟩)) (hg : w.heap[g]? = some (.cells cs t fr))
    (hu : P.underlying ty = some d) (hd : (match d with | .struct _ | .array _ _ => true | _ => false) = true) (hi : (P.info? ty).map (·.size) = some cs.size) :
    (results fn tmps).run P w = .ok (.tuple #[.agg cs, tmps.getD u undef, tmps.getD v undef]) w := by
  rw [results_cell_tmp2 h, hp]
  simp only [asAddr, Sem.run_pure, Result.andThen_ok]
  rw [run_loadVar_row w g t ty cs fr d hg hu hd hi]
  rfl
/-- what a reader of a text hands back -/
def ReadRet (r : JobD × Nat × Nat) (w : World) (e : Ending) (w' : World) : Prop :=
  ∃ (so : Option Addr) (sc : Nat), e = .returned (.tuple #[.agg (jobCs r.1 so sc), .int .i64 (r.2.1 : Nat), .int .i64 (r.2.2 : Nat)]) ∧ Rd w' so r.1.src.length (u32s r.1.src) ∧ Below w.heap.size w w'
end Go.Proofs.Ytmflopeedofkhaa

namespace Go.Proofs.Ytmflopeedofkhaa
set_option linter.unusedSimpArgs false
set_option linter.unusedVariables false
set_option maxRecDepth 100000
open Go.RowKit

structure RdC (L : List W8) (w : World) (la : Option Addr) (bj : Nat) (j : JobD) (so : Option Addr) (sc : Nat) (met : List W8) (mo : Option Addr) (mc : Nat) (mg : Option Nat) (wr : World) : Prop where
  hj : wr.heap[bj]? = some (.cells (jobCs j so sc) 30 (0, 0))
  hz : wr.heap[w.heap.size]? = some (.cells zeroCs 30 (0, 0))
  hsr : Rd wr so j.src.length (u32s j.src)
  hsf : 0 < j.src.length → ∀ k off, so = some ⟨k, off, none⟩ → bj < k ∧ mg ≠ some k
  hmo : Own wr mo mc mg 9 1 met.length (strCells met)
  hmg : ∀ b, mg = some b → bj < b
  hla : Rd wr la L.length (strCells L)
  hlf : ∀ k off, la = some ⟨k, off, none⟩ → bj < k ∧ mg ≠ some k
  hB : Below w.heap.size w wr
theorem heap_lt {w : World} {b : Nat} {o : Obj} (h : w.heap[b]? = some o) : b < w.heap.size := (Array.getElem?_eq_some_iff.1 h).1
theorem RdC.ext {L : List W8} {w : World} {la : Option Addr} {bj : Nat} {j : JobD} {so : Option Addr} {sc : Nat} {met : List W8} {mo : Option Addr} {mc : Nat} {mg : Option Nat} {wr w' : World} (h : RdC L w la bj j so sc met mo mc mg wr) (B : Below wr.heap.size wr w') : RdC L w la bj j so sc met mo mc mg w' :=
  ⟨(B.block _ (heap_lt h.hj)).trans h.hj, (B.block _ (heap_lt h.hz)).trans h.hz, h.hsr.ext B, h.hsf, h.hmo.ext B, h.hmg, h.hla.ext B, h.hlf, h.hB.trans (B.mono h.hB.size)⟩
theorem RdC.step {L : List W8} {w : World} {la : Option Addr} {bj : Nat} {j : JobD} {so : Option Addr} {sc : Nat} {met : List W8} {mo : Option Addr} {mc : Nat} {mg : Option Nat} {w5 : World} (C : RdC L w la bj j so sc met mo mc mg w5) (hL : 0 < L.length) (hw : w.heap.size < bj)
    {x : JobD} {so' : Option Addr} {sc' : Nat} (hx : Rd w5 so' x.src.length (u32s x.src)) (hxf : 0 < x.src.length → ∀ k off, so' = some ⟨k, off, none⟩ → bj < k ∧ mg ≠ some k) {w6 : World} (h6 : w6.heap[bj]? = some (.cells (jobCs x so' sc') 30 (0, 0))) (o6 : Only (fun k => k = bj) w5 w6)
    {w7 : World} {ao : Option Addr} {cap : Nat} {g : Option Nat} (o : Obj) (k : W8) (h7 : Own w7 ao cap g 9 1 (met.length + 1) (strCells met ++ [.string (bs k)])) (hg : g = mg ∨ g = some (w6.alloc o).heap.size) (o7 : Only (fun k => mg = some k) (w6.alloc o) w7) :
    RdC L w la bj x so' sc' (met ++ [k]) ao cap g w7 := by
  have s56 := o6.size
  have s67 : w6.heap.size + 1 ≤ w7.heap.size := by have := o7.size; simpa using this
  have hgs : ∀ b, g = some b → mg = some b ∨ b = w6.heap.size + 1 := fun b hb => by
    rcases hg with h | h
    · exact .inl (h ▸ hb)
    · rw [h] at hb; cases hb; right; simp
  have oA : Only (fun k => mg = some k) w6 w7 := (Only.of_below (ext_alloc w6 o)).trans (fp := fun k => mg = some k) o7 (fun k _ h => h) |>.mono (fun k _ h => h)
  have hbj := heap_lt C.hj
  refine ⟨?_, ?_, ?_, ?_, ?_, ?_, ?_, ?_, ?_⟩
  · exact (oA.same bj (heap_lt h6) (fun e => by have := C.hmg _ e; omega)).trans h6
  · exact (oA.same _ (by omega) (fun e => by have := C.hmg _ e; omega)).trans ((o6.same _ (by omega) (by omega)).trans C.hz)
  · exact (hx.onlyB o6 (fun hn k off hk e => by have := (hxf hn k off hk).1; omega)).onlyB oA (fun hn k off hk e => (hxf hn k off hk).2 e)
  · intro hn k off hk
    refine ⟨(hxf hn k off hk).1, fun e => ?_⟩
    obtain ⟨b', off', h1, h2, _⟩ := hx.pos hn
    rw [hk] at h1
    cases h1
    rcases hgs _ e with h | h
    · exact (hxf hn k off hk).2 h
    · omega
  · have e1 : (met ++ [k]).length = met.length + 1 := by simp
    have e2 : strCells (met ++ [k]) = strCells met ++ [.string (bs k)] := by simp [strCells]
    rw [e1, e2]
    exact h7
  · intro b hb
    rcases hgs b hb with h | h
    · exact C.hmg b h
    · omega
  · exact (C.hla.onlyB o6 (fun hn k off hk e => by have := (C.hlf k off hk).1; omega)).onlyB oA (fun hn k off hk e => (C.hlf k off hk).2 e)
  · intro k off hk
    refine ⟨(C.hlf k off hk).1, fun e => ?_⟩
    obtain ⟨b', off', h1, h2, _⟩ := C.hla.pos hL
    rw [hk] at h1
    cases h1
    rcases hgs _ e with h | h
    · exact (C.hlf k off hk).2 h
    · omega
  · exact (C.hB.trans (o6.below C.hB.size (fun k hk e => by omega))).trans (oA.below (by have := C.hB.size; omega) (fun k hk e => by have := C.hmg _ e; omega))
def rdI (L : List W8) (r : JobD × Nat × Nat) (w : World) (la : Option Addr) (bj : Nat) (mv i : Value) (wr : World) : Prop :=
  ∃ (k : Nat) (j : JobD) (so : Option Addr) (sc : Nat) (met : List W8) (mo : Option Addr) (mc : Nat) (mg : Option Nat), k ≤ L.length ∧ mv = .slice mo met.length mc ∧ i = .int .i64 (k : Nat) ∧ readJGo j met k (L.drop k) = r ∧ InJ j ∧ met.length ≤ k ∧ RdC L w la bj j so sc met mo mc mg wr
theorem words_first {s : W8} {k : W8} {ws : List W8} (h : words s = k :: ws) : ∃ c r, k = c :: r := by
  have := words_ne19 s k (by rw [h]; simp)
  cases k with
  | nil => exact absurd rfl this
  | cons c r => exact ⟨c, r, rfl⟩
set_option maxRecDepth 100000 in
set_option maxHeartbeats 6400000 in
theorem rread19_any (l : List UInt8) (hl : l.length ≤ 1000000) (ao : Option Addr) (cap : Nat) (w : World) (hrd : Rd w ao l.length (byteVals l)) :
    Calls Try.prog 10 #[.slice ao l.length cap] w (ReadRet (readJ l) w) := by
  have HLi := Lib.hid (fun W (hB : Below w.heap.size w W) => rlines_any l (by omega) ao cap W (hrd.ext hB))
  have HBe := Lib.hid (fun W => rbegin19_any W)
  have hll := lines_len l
  have HLm := Lib.hid (lines_mem19 l)
  obtain ⟨RR, hRR⟩ : ∃ RR, readJ l = RR := ⟨_, rfl⟩
  rw [hRR]
  have HRR := Lib.hid (show readJGo beginJ [] 0 (lines l) = RR from hRR)
  clear hRR hrd
  generalize lines l = L at *
  obtain ⟨W0, hW0⟩ : ∃ W0, w.alloc (.cells zeroCs 30) = W0 := ⟨_, rfl⟩
  have B0 := Lib.hid (show Below w.heap.size w W0 by rw [← hW0]; exact ext_alloc w _)
  have S0 := Lib.hid (show W0.heap.size = w.heap.size + 1 by rw [← hW0]; simp)
  have Z0 := Lib.hid (show W0.heap[w.heap.size]? = some (.cells zeroCs 30 (0, 0)) by rw [← hW0]; exact heap_alloc_new _ _)
  have HW0 := Lib.hid hW0
  unfold zeroCs at HW0
  clear hW0
  go_enter Try.func10, Try.ntmps10
  go_upto_region 1 with fail
  rw [HW0.out]
  go_upto_region 4 with (first
    | (go_at_call 24; (with_reducible refine (HBe.out _).mono ?_); rintro e w1 ⟨rfl, hx⟩; have B1 := Lib.hid hx; clear hx)
    | (refine wpList_store_row rfl _ _ _ rfl rfl rfl (heap_alloc_new _ _) rfl (jb_info19 _ _ _) (jb_one19 _ _ _) ?_; intro w2 hg2 ho2; have G2 := Lib.hid hg2; have O2 := Lib.hid ho2; clear hg2 ho2)
    | (go_at_call 14; have hB2 : Below w.heap.size w w2 := ((B0.out.trans (B1.out.mono B0.out.size)).alloc (Nat.le_trans B0.out.size B1.out.size) _).trans (O2.out.below (by have := B0.out.size; have := B1.out.size; simp; omega) (fun k hk e => by have := S0.out; have := B1.out.size; omega)); (with_reducible refine (HLi.out _ (hB2.alloc hB2.size _)).mono ?_); rintro e w3 ⟨la, lc, lg, rfl, hx, hy, hz⟩; have Lo := Lib.hid hx; have Lg := Lib.hid hy; have B3 := Lib.hid hz; have B2 := Lib.hid hB2; clear hx hy hz hB2))
  obtain ⟨bj, hbj⟩ : ∃ b, b = w1.heap.size := ⟨_, rfl⟩
  have hz1 := B1.out.size
  have hz0 := S0.out
  have hz2 : w1.heap.size + 1 ≤ w2.heap.size := by have := O2.out.size; simpa using this
  have hz3 : w2.heap.size + 1 ≤ w3.heap.size := by have := B3.out.size; simpa using this
  have hB3 : Below w2.heap.size w2 w3 := (ext_alloc w2 _).trans (B3.out.mono (by simp))
  have HST : Hid (rdI L RR w la bj (.slice (some ⟨w2.heap.size, 0, none⟩) 0 0) (.int .i64 0) w3) := by
    refine ⟨0, beginJ, none, 0, [], some ⟨w2.heap.size, 0, none⟩, 0, some w2.heap.size, Nat.zero_le _, rfl, rfl, HRR.out, inJ_begin, Nat.le_refl _, ⟨?_, ?_, ⟨rfl, .inl rfl⟩, fun h => absurd h (by decide), (Own.emptyAt w2 9 1 w2.heap.size rfl).ext B3.out, fun b hb => by cases hb; omega, Lo.out.rd, fun k off hk => ?_, B2.out.trans (hB3.mono (by omega))⟩⟩
    · rw [hbj]; exact (hB3.block _ (by omega)).trans G2.out
    · refine (hB3.block _ (by omega)).trans ((O2.out.same _ (by simp; omega) (by omega)).trans ((Below.heap_alloc _ _ _ (by omega)).trans ((B1.out.block _ (by omega)).trans Z0.out)))
    · have hg : ∃ q, lg = some q ∧ k = q := by
        rcases Lo.out.addr with ⟨h1, _⟩ | ⟨q, h0, h1, _⟩
        · rw [h1] at hk; cases hk
        · rw [h1] at hk; cases hk; exact ⟨_, h0, rfl⟩
      obtain ⟨q, hq, rfl⟩ := hg
      have := Lg.out k hq
      simp at this
      exact ⟨by omega, fun e => by cases e; omega⟩
  have Hw := Lib.hid (show w.heap.size < bj by omega)
  clear hz0 hz1 hz2 hz3 hB3 HBe HLi B0 S0 Z0 HW0 B1 G2 O2 Lo Lg B3 B2
  rw [← hbj]
  clear hbj
  go_wp2_with fail
  go_loopw [6, 18] (fun mv i wr => rdI L RR w la bj mv i wr) (fun _ i _ => L.length - (intOf i).toNat)
  case atStart => exact HST.out
  case round =>
    clear HST
    obtain ⟨k, j, so, sc, met, mo, mc, mg, hk, rfl, rfl, hgo, hin, hmk, hC⟩ := hrel
    have HgO := Lib.hid hgo
    have HIn := Lib.hid hin
    have HMk := Lib.hid hmk
    have HC := Lib.hid hC
    have hla := hC.hla
    clear hgo hin hmk hC
    by_cases hlt : k < L.length
    · have hir : (k : Int) < (L.length : Int) := by omega
      obtain ⟨lb, lo, rfl, hlb, hlc⟩ := hla.pos (by omega)
      have c1 := hlc k hlt
      simp only [strCells, List.getElem?_map, List.getElem?_eq_getElem hlt, Option.map_some] at c1
      have Hs := Lib.hid (show L[k].length ≤ 1000000 from Nat.le_trans (HLm.out _ (List.getElem_mem hlt)) hl)
      have HD := Lib.hid (show L.drop k = L[k] :: L.drop (k + 1) from (List.getElem_cons_drop (h := hlt)).symm)
      generalize L[k] = s at c1 Hs HD
      have HWd := Lib.hid (fun W => rwords_any s (by have := Hs.out; omega) W)
      clear hlc hla hlb
      have Hwd := Lib.hid (And.intro (fun x hx => Nat.le_trans (words_mem19 s x hx) Hs.out) (Nat.le_trans (words_len s) Hs.out))
      have HWf := Lib.hid (fun k ws (h : words s = k :: ws) => words_first h)
      have HGo := Lib.hid (show readJGo j met k (s :: L.drop (k + 1)) = RR by rw [← HD.out]; exact HgO.out)
      unfold readJGo at HGo
      go_upto_region 8 with (go_at_call 25; (with_reducible refine (HWd.out _).mono ?_); rintro e w1 ⟨wa, wc, wg, rfl, hx, hy, hz⟩; have Wo := Lib.hid hx; have Wg := Lib.hid hy; have B1 := Lib.hid hz; clear hx hy hz)
      clear c1 HWd HD HgO
      generalize words s = V at *
      have C1 := Lib.hid (HC.out.ext B1.out)
      rcases V with _ | ⟨kw, ws⟩
      · have e0 : (([] : List W8).length : Int) = 0 := rfl
        go_wp2_with fail
        go_roundw
        case rel => exact ⟨k + 1, j, so, sc, met, mo, mc, mg, by omega, rfl, by go_num, HGo.out, HIn.out, by have := HMk.out; omega, C1.out⟩
        case measure => simp [intOf]; omega
      obtain ⟨c, a, rfl⟩ := HWf.out kw ws rfl
      clear HWf
      obtain ⟨wb, rfl, rfl, hwb⟩ : ∃ b, wg = some b ∧ wa = some ⟨b, 0, none⟩ ∧ b < w1.heap.size := by
        rcases Wo.out.addr with ⟨_, _, h2, _⟩ | h
        · cases h2
        · exact h
      have c2 : w1.cell? ⟨wb, 0, none⟩ = some (.string (bs (c :: a))) := by
        have := Wo.out.cell 0 (by simp)
        simpa [strCells] using this
      obtain ⟨n, hn⟩ : ∃ n, ((c :: a) :: ws).length = n := ⟨_, rfl⟩
      rw [hn] at Wo ⊢
      have Hn := Lib.hid hn
      have h0 : ((n : Int) == 0) = false := by rw [← hn]; exact beq_eq_false_iff_ne.2 (by simp only [List.length_cons]; omega)
      have h1 : (0 : Int) < n := by rw [← hn]; simp only [List.length_cons]; omega
      have h1' : 0 < n := by omega
      have hsz' : 0 < (bs (c :: a)).size := by rw [bs_size]; simp
      have hget : (bs (c :: a))[0]'hsz' = c := by rw [bs_get]; rfl
      generalize hS : bs (c :: a) = S at c2 hsz' hget
      have HS := Lib.hid hS
      have hsz : (0 : Int) < (S.size : Int) := by omega
      have hpb0 : ((S[0].toNat : Int) == 35) = (c == 35) := by
        rw [hget]
        by_cases hm : c = 35
        · subst hm; rfl
        · rw [beq_eq_false_iff_ne.2 hm, beq_eq_false_iff_ne]
          intro e
          exact hm (by rw [← UInt8.toNat_inj]; show c.toNat = 35; omega)
      have Hwb := Lib.hid hwb
      have C2 := Lib.hid (show w1.cell? ⟨wb, 0, none⟩ = some (.string S) from c2)
      have HWj := Lib.hid (show bj < wb by have := Wg.out wb rfl; have := heap_lt HC.out.hj; omega)
      clear hn hS hwb
      by_cases hm : c = 35
      · have hpb : ((S[0].toNat : Int) == 35) = true := by rw [hpb0, hm]; rfl
        have HGo2 := Lib.hid (show readJGo j met (k + 1) (L.drop (k + 1)) = RR by
          have h : (if (c :: a).head? = some 35 then readJGo j met (k + 1) (L.drop (k + 1)) else if (lineJ j met (c :: a) ws).2 ≠ 0 then (zeroJ, k + 1, (lineJ j met (c :: a) ws).2) else readJGo (lineJ j met (c :: a) ws).1 (met ++ [c :: a]) (k + 1) (L.drop (k + 1))) = RR := HGo.out
          rwa [if_pos (show (c :: a).head? = some 35 by rw [hm]; rfl)] at h)
        clear hpb0 hm hget
        go_wp2_with fail
        go_roundw
        case rel => exact ⟨k + 1, j, so, sc, met, mo, mc, mg, by omega, rfl, by go_num, HGo2.out, HIn.out, by have := HMk.out; omega, C1.out⟩
        case measure => simp [intOf]; omega
      have hpb : ((S[0].toNat : Int) == 35) = false := by rw [hpb0]; simpa using hm
      have HGo2 := Lib.hid (show (if (lineJ j met (c :: a) ws).2 ≠ 0 then (zeroJ, k + 1, (lineJ j met (c :: a) ws).2) else readJGo (lineJ j met (c :: a) ws).1 (met ++ [c :: a]) (k + 1) (L.drop (k + 1))) = RR by
        have h : (if (c :: a).head? = some 35 then readJGo j met (k + 1) (L.drop (k + 1)) else if (lineJ j met (c :: a) ws).2 ≠ 0 then (zeroJ, k + 1, (lineJ j met (c :: a) ws).2) else readJGo (lineJ j met (c :: a) ws).1 (met ++ [c :: a]) (k + 1) (L.drop (k + 1))) = RR := HGo.out
        rwa [if_neg (show ¬ (c :: a).head? = some 35 by simpa using hm)] at h)
      clear HGo hpb0 hm hget
      have HLn := Lib.hid (show Calls Try.prog 26 #[.agg (jobCs j so sc), .slice (some ⟨wb, 0, none⟩) n wc, .slice mo met.length mc] w1 (LineRet so j.src (lineJ j met (c :: a) ws) w1) by
        have hn' : n = ws.length + 1 := by rw [← Hn.out]; simp
        subst hn'
        exact rline19_any j HIn.out.le HIn.out.few so sc (c :: a) ws (Nat.le_trans (Hwd.out.1 _ (by simp)) (by omega)) (fun x hx => Nat.le_trans (Hwd.out.1 x (by simp [hx])) (by omega)) _ _ met mo mc (by have := Hwd.out.2; simp at this; omega) (by have := HMk.out; omega) w1 C1.out.hsr Wo.out.rd C1.out.hmo.rd)
      have HIl := Lib.hid (fun h => lineJ_in HIn.out (met := met) (k := c :: a) (ws := ws) h)
      generalize lineJ j met (c :: a) ws = r1 at *
      obtain ⟨j1, e1⟩ := r1
      by_cases he : e1 = 0
      · subst he
        have HR := Lib.hid (show readJGo j1 (met ++ [c :: a]) (k + 1) (L.drop (k + 1)) = RR by rw [← HGo2.out]; exact (if_neg (by simp)).symm)
        have HI1 := Lib.hid (HIl.out rfl)
        have hE := strsElem
        have hmk1 := HMk.out
        clear HGo2 HIl
        go_wp2_with
        (first
          | (refine wpList_load_row rfl _ _ rfl bj rfl 30 _ (0, 0) _ C1.out.hj Try.underlying30 rfl (jb_info19 _ _ _) ?_)
          | (go_at_call 26; (with_reducible refine HLn.out.mono ?_); rintro e w4 ⟨x, so', sc', rfl, hx, hy⟩; have X4 := Lib.hid hx; have B4 := Lib.hid hy; have C4 := Lib.hid (C1.out.ext hy); clear hx hy)
          | (refine wpList_store_row rfl _ _ _ rfl rfl rfl (heap_alloc_new _ _) rfl (jb_info19 _ _ _) (jb_one19 _ _ _) ?_; intro w5 hg5 ho5; have hB5 : Below w4.heap.size w4 w5 := (ext_alloc w4 _).trans (ho5.below (by simp) (fun k hk e => by omega)); have G5 := Lib.hid hg5; have B5 := Lib.hid hB5; have C5 := Lib.hid (C4.out.ext hB5); clear hg5 ho5 hB5)
          | (refine wpList_store_row rfl _ _ _ rfl rfl rfl C5.out.hz rfl (jb_info19 zeroJ none 0) (jb_one19 zeroJ none 0) ?_; intro w6 hg6 ho6; have G6 := Lib.hid hg6; have O6 := Lib.hid ho6; clear hg6 ho6)
          | (refine wpList_load_row rfl _ _ rfl w4.heap.size rfl 30 _ (0, 0) _ G5.out Try.underlying30 rfl (jb_info19 _ _ _) ?_)
          | (refine wpList_store_row rfl _ _ _ rfl rfl rfl C5.out.hj rfl (jb_info19 _ _ _) (jb_one19 _ _ _) ?_; intro w6 hg6 ho6; have c6 := (ho6.cell (b := wb) (Nat.lt_of_lt_of_le Hwb.out (Nat.le_trans B4.out.size B5.out.size)) (fun e => by have e' : wb = bj := e; have := HWj.out; omega) 0).trans (((bcell B5.out).1 wb 0 (Nat.lt_of_lt_of_le Hwb.out B4.out.size)).trans (((bcell B4.out).1 wb 0 Hwb.out).trans C2.out)); have hmo6 := C5.out.hmo.only ho6 (fun b hb e => by have := C5.out.hmg b hb; omega); have G6 := Lib.hid hg6; have O6 := Lib.hid ho6; have M6 := Lib.hid hmo6; clear hg6 ho6 hmo6)
          | (at_builtin; refine wpList_app rfl (.tmp 50) (.tmp 54) 39 39 rfl hE (M6.out.ext (ext_alloc w6 _)) rfl rfl (srcOne Try.underlying39 _ _ _ _ rfl) (by simp [maxLen]; omega) (by omega) ?_; intro ao7 cap7 g7 w7 ho7 hg7 hon7; have H7 := Lib.hid ho7; have Hg7 := Lib.hid hg7; have O7 := Lib.hid hon7; clear ho7 hg7 hon7))
        go_roundw
        case rel =>
          obtain ⟨rfl, hx2, hx3⟩ := X4.out (by first | rfl | trivial)
          have hC7 := C5.out.step (by omega) Hw.out (hx2.ext B5.out) (fun hn p off hp => by
            rcases hx3 with ⟨h, h'⟩ | h
            · rw [h'] at hn
              exact C1.out.hsf hn p off (by rw [← h]; exact hp)
            · have h9 : w1.heap.size ≤ p := h _ hp
              have := heap_lt C1.out.hj
              exact ⟨by omega, fun e => by have := C1.out.hmo.lt p e; omega⟩) G6.out O6.out _ (c :: a) (by rw [HS.out]; exact H7.out) Hg7.out O7.out
          exact ⟨k + 1, x, so', sc', met ++ [c :: a], ao7, cap7, g7, by omega, by rw [List.length_append, List.length_singleton], by go_num, HR.out, HI1.out, by rw [List.length_append, List.length_singleton]; omega, hC7⟩
        case measure => simp [intOf]; omega
      · have d1 : ((e1 : Int) != 0) = true := by simp; omega
        have d1' : (e1 != 0) = true := by simp; omega
        have HR := Lib.hid (show RR = (zeroJ, k + 1, e1) by rw [← HGo2.out]; exact if_pos he)
        clear he HGo2 HIl
        go_wp2_with
        (first
          | (refine wpList_load_row rfl _ _ rfl bj rfl 30 _ (0, 0) _ C1.out.hj Try.underlying30 rfl (jb_info19 _ _ _) ?_)
          | (go_at_call 26; (with_reducible refine HLn.out.mono ?_); rintro e w4 ⟨x, so', sc', rfl, hx, hy⟩; have X4 := Lib.hid hx; have B4 := Lib.hid hy; have C4 := Lib.hid (C1.out.ext hy); clear hx hy)
          | (refine wpList_store_row rfl _ _ _ rfl rfl rfl (heap_alloc_new _ _) rfl (jb_info19 _ _ _) (jb_one19 _ _ _) ?_; intro w5 hg5 ho5; have hB5 : Below w4.heap.size w4 w5 := (ext_alloc w4 _).trans (ho5.below (by simp) (fun k hk e => by omega)); have G5 := Lib.hid hg5; have B5 := Lib.hid hB5; have C5 := Lib.hid (C4.out.ext hB5); clear hg5 ho5 hB5)
          | (refine wpList_store_row rfl _ _ _ rfl rfl rfl C5.out.hz rfl (jb_info19 zeroJ none 0) (jb_one19 zeroJ none 0) ?_; intro w6 hg6 ho6; have G6 := Lib.hid hg6; have O6 := Lib.hid ho6; clear hg6 ho6)
          | (refine wpList_load_row rfl _ _ rfl w4.heap.size rfl 30 _ (0, 0) _ G5.out Try.underlying30 rfl (jb_info19 _ _ _) ?_)
          | (refine wpList_store_row rfl _ _ _ rfl rfl rfl C5.out.hj rfl (jb_info19 _ _ _) (jb_one19 _ _ _) ?_; intro w6 hg6 ho6; have c6 := (ho6.cell (b := wb) (Nat.lt_of_lt_of_le Hwb.out (Nat.le_trans B4.out.size B5.out.size)) (fun e => by have e' : wb = bj := e; have := HWj.out; omega) 0).trans (((bcell B5.out).1 wb 0 (Nat.lt_of_lt_of_le Hwb.out B4.out.size)).trans (((bcell B4.out).1 wb 0 Hwb.out).trans C2.out)); have hmo6 := C5.out.hmo.only ho6 (fun b hb e => by have := C5.out.hmg b hb; omega); have G6 := Lib.hid hg6; have O6 := Lib.hid ho6; have M6 := Lib.hid hmo6; clear hg6 ho6 hmo6)
          | (at_builtin; refine wpList_app rfl (.tmp 50) (.tmp 54) 39 39 rfl hE (M6.out.ext (ext_alloc w6 _)) rfl rfl (srcOne Try.underlying39 _ _ _ _ rfl) (by simp [maxLen]; omega) (by omega) ?_; intro ao7 cap7 g7 w7 ho7 hg7 hon7; have H7 := Lib.hid ho7; have Hg7 := Lib.hid hg7; have O7 := Lib.hid hon7; clear ho7 hg7 hon7))
        refine bodyPost_ret (results_row_tmp2 rfl _ _ w.heap.size 30 _ (0, 0) _ rfl G6.out Try.underlying30 rfl (jb_info19 zeroJ none 0)) rfl ?_
        exact ⟨none, 0, by rw [HR.out]; rfl, by rw [HR.out]; exact ⟨rfl, .inl rfl⟩, C5.out.hB.trans (O6.out.below C5.out.hB.size (fun k hk e => by omega))⟩
    · obtain rfl : k = L.length := by omega
      have hE := HgO.out
      rw [List.drop_length] at hE
      have c4 : wr.cell? ⟨bj, 4, none⟩ = some (.slice so j.src.length sc) := (cell_of_row _ _ _ _ _ _ HC.out.hj).trans rfl
      by_cases h0 : j.src = []
      · have HR := Lib.hid (show RR = (zeroJ, 0, 1) by rw [← hE]; unfold readJGo; rw [if_pos h0])
        have n0 : ((j.src.length : Int) == 0) = true := by rw [h0]; rfl
        generalize j.src.length = n at c4 n0
        clear hE h0 hla
        go_wp2_with (refine wpList_store_row rfl _ _ _ rfl rfl rfl HC.out.hz rfl (jb_info19 zeroJ none 0) (jb_one19 zeroJ none 0) ?_; intro w6 hg6 ho6; have G6 := Lib.hid hg6; have O6 := Lib.hid ho6; clear hg6 ho6)
        refine bodyPost_ret (results_row_tmp2 rfl _ _ w.heap.size 30 _ (0, 0) _ rfl G6.out Try.underlying30 rfl (jb_info19 zeroJ none 0)) rfl ?_
        exact ⟨none, 0, by rw [HR.out]; rfl, by rw [HR.out]; exact ⟨rfl, .inl rfl⟩, HC.out.hB.trans (O6.out.below HC.out.hB.size (fun k hk e => by omega))⟩
      · have HR := Lib.hid (show RR = (j, 0, 0) by rw [← hE]; unfold readJGo; rw [if_neg h0])
        have n0 : ((j.src.length : Int) == 0) = false := by
          refine beq_eq_false_iff_ne.2 fun h => h0 (List.eq_nil_of_length_eq_zero (by omega))
        have n0' : (j.src.length == 0) = false := by
          refine beq_eq_false_iff_ne.2 fun h => h0 (List.eq_nil_of_length_eq_zero h)
        generalize j.src.length = n at c4 n0 n0'
        clear hE h0 hla
        go_wp2_with (first
          | (refine wpList_load_row rfl _ _ rfl bj rfl 30 _ (0, 0) _ HC.out.hj Try.underlying30 rfl (jb_info19 _ _ _) ?_)
          | (refine wpList_store_row rfl _ _ _ rfl rfl rfl HC.out.hz rfl (jb_info19 _ _ _) (jb_one19 _ _ _) ?_; intro w6 hg6 ho6; have G6 := Lib.hid hg6; have O6 := Lib.hid ho6; clear hg6 ho6))
        refine bodyPost_ret (results_row_tmp2 rfl _ _ w.heap.size 30 _ (0, 0) _ rfl G6.out Try.underlying30 rfl (jb_info19 _ _ _)) rfl ?_
        refine ⟨so, sc, by rw [HR.out]; rfl, ?_, HC.out.hB.trans (O6.out.below HC.out.hB.size (fun k hk e => by omega))⟩
        rw [HR.out]
        exact HC.out.hsr.onlyB O6.out (fun hn k off hk e => by have := (HC.out.hsf hn k off hk).1; have := Hw.out; omega)
end Go.Proofs.Ytmflopeedofkhaa
