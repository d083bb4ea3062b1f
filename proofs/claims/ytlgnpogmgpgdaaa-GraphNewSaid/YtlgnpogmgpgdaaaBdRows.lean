/- Texts merged into one: MergeEach, MergeRows, MergeRef1, MergeRef2, MergeSameW, MergeSort. -/
import Derived.Test.YtlgnpogmgpgdaaaBdMay
import Derived.Test.YtlgnpogmgpgdaaaVals
import Derived.Test.YtlgnpogmgpgdaaaLaw
import Derived.StillTailTactics
namespace Go.Proofs.Ytlgnpogmgpgdaaa
set_option linter.unusedSimpArgs false
set_option linter.unusedVariables false
set_option maxRecDepth 100000
open Go.RowKit

/-- a row or an error, and the values by which it is told -/
abbrev EachM := (RowD × Nat) × (Option Addr × Nat)
def encM (x : EachM) : Array Value := #[.agg #[.int .u32 (x.1.1.1 : Nat), .slice x.2.1 x.1.1.2.length x.2.2], .int .i64 (x.1.2 : Nat)]
def toldM (tp : Nat → Prop) (x : EachM) (W : World) : Prop :=
  x.1.1.2.length ≤ x.2.2 ∧ x.2.2 ≤ maxLen ∧ okRow x.1.1 ∧ RdS arcRep tp W x.2.1 x.1.1.2
theorem MG.stays {fp : Nat → Prop} {W W' : World} {m : Nat} {row : RowD} {last : List UInt8} {ao : Option Addr} {cap : Nat} {g : Option Nat} {lo : Option Addr} {lc : Nat} (h : MG m row last ao cap g lo lc W) (hs : Stays fp W W') (hm : fp m) (hg : ∀ k, g = some k → fp k)
    (hl : 0 < last.length → ∀ b off, lo = some ⟨b, off, none⟩ → fp b) : MG m row last ao cap g lo lc W' := by
  refine ⟨(hs.cell hm 0).trans h.c0, (hs.cell hm 1).trans h.c1, (hs.cell hm 2).trans h.c2, (hs.frozen hm 0).trans h.f0, (hs.frozen hm 1).trans h.f1, (hs.frozen hm 2).trans h.f2, h.own.stays hs (fun b hb _ => hb.elim (fun h => h.elim) (hg b)), ⟨h.rd.1, ?_⟩, Nat.lt_of_lt_of_le h.lt hs.size, h.ne, h.lne⟩
  rcases Nat.eq_zero_or_pos last.length with h0 | h0
  · exact .inl h0
  · obtain ⟨b, off, e, hb, hc⟩ := h.rd.pos h0
    exact .inr ⟨b, off, e, Nat.lt_of_lt_of_le hb hs.size, fun j hj => (hs.cell (hl h0 b off e) _).trans (hc j hj)⟩
/-- the key that was taken last is kept -/
theorem MG.keepLast {W : World} {m : Nat} {row : RowD} {last r : List UInt8} {ao : Option Addr} {cap : Nat} {g : Option Nat} {lo : Option Addr} {lc : Nat} (h : MG m row last ao cap g lo lc W) {ao4 : Option Addr} {cap4 : Nat} {g4 : Option Nat} {e : TypeId}
    (ho : Own W ao4 cap4 g4 e 1 r.length (byteVals r)) (hm : g4 ≠ some m) (hg : ∀ k, g4 = some k → g ≠ some k) : MG m row r ao cap g ao4 cap4 (W.setCell ⟨m, 2, none⟩ (.slice ao4 r.length cap4)) := by
  have hon : Only (fun k => k = m) W (W.setCell ⟨m, 2, none⟩ (.slice ao4 r.length cap4)) := (Only.refl (fun k => k = m) W).setCell (p := ⟨m, 2, none⟩) (fun _ => rfl) _
  refine ⟨?_, ?_, World.cell?_setCell_same _ _ _ h.c2, (World.frozen?_setCell ..).trans h.f0, (World.frozen?_setCell ..).trans h.f1, (World.frozen?_setCell ..).trans h.f2, h.own.only hon (fun b hb _ e => ?_), ?_, by simpa using h.lt, h.ne, fun b off e h0 => ?_⟩
  · rw [World.cell?_setCell_other _ _ _ _ (by simp)]; exact h.c0
  · rw [World.cell?_setCell_other _ _ _ _ (by simp)]; exact h.c1
  · subst e; rcases hb with h1 | h1
    · exact h1
    · exact h.ne h1
  · exact (ho.setCell (p := ⟨m, 2, none⟩) (fun b hb e => by subst e; exact hm hb) _).rd
  · rcases ho.addr with ⟨h1, _⟩ | ⟨b', h1, h2, _⟩
    · rw [h1] at e; cases e
    · rw [h2] at e; cases e
      exact ⟨fun e => hm (by rw [h1, e]), hg _ h1⟩

def eachMI (recs : List (List UInt8)) (J : List EachM → (Nat → Prop) → World → Prop) (fp0 : Nat → Prop) (H0 B H1 : Nat) (pre : List RowV) (fq : Nat → Prop) (W : World) : Prop :=
  ∃ (T : List EachM) (fp1 : Nat → Prop) (row : RowD) (last : List UInt8) (ao : Option Addr) (cap : Nat) (g : Option Nat) (lo : Option Addr) (lc : Nat) (gl : Option Nat),
    J T fp1 W ∧ (∀ rest, toldRE (0, []) [] (pre.map (·.1) ++ rest) = T.map (·.1) ++ toldRE row last rest) ∧ MG B row last ao cap g lo lc W ∧ okRow row ∧ row.2.length ≤ pre.length ∧
    ¬ fp1 B ∧ (∀ k, (g = some k ∨ gl = some k) → ¬ fp1 k ∧ H1 ≤ k ∧ k < W.heap.size) ∧ (0 < last.length → ∀ b off, lo = some ⟨b, off, none⟩ → gl = some b) ∧ (∀ k, fp1 k → fp0 k ∨ H0 ≤ k) ∧ (∀ k, fq k ↔ (fp1 k ∨ k = B ∨ g = some k ∨ gl = some k))
/-- how it is left: all told, or stopped -/
def endX {δ ε : Type} (ts : List δ) (J Jx : List (δ × ε) → (Nat → Prop) → World → Prop) (fp0 : Nat → Prop) (H0 : Nat) (c : Code) (fq : Nat → Prop) (W : World) : Prop :=
  c = .ret ∧ ∃ (T : List (δ × ε)) (fp1 : Nat → Prop), ((T.map (·.1) = ts ∧ J T fp1 W) ∨ (T.map (·.1) <+: ts ∧ Jx T fp1 W)) ∧ (∀ k, fp1 k → fp0 k ∨ H0 ≤ k) ∧ (∀ k, fp1 k → fq k)
theorem endX_own {fp0 fp1 fp2 fq tp tpy : Nat → Prop} {H0 : Nat} {W W2 : World} (hf1 : ∀ k, fp1 k → fq k) (hft : ∀ k, tpy k → fq k ∧ H0 ≤ k)
    (hn : ∀ k, fp1 k → fp0 k ∨ H0 ≤ k) (hH : H0 ≤ W.heap.size) (hfw : FwdT fp1 tpy fp2 W W2) : FwdT fq tp fp2 W W2 ∧ (∀ k, fp2 k → fp0 k ∨ H0 ≤ k) := by
  refine ⟨⟨hfw.only.mono (fun k _ hk => hf1 k hk), fun k hk => ⟨?_, (hfw.own k hk).2⟩⟩, fun k hk => ?_⟩
  · rcases (hfw.own k hk).1 with h | h | h
    · exact .inl (hf1 k h)
    · exact .inl (hft k h).1
    · exact .inr (.inr h)
  · rcases (hfw.own k hk).1 with h | h | h
    · exact hn k h
    · exact .inr (hft k h).2
    · exact .inr (by omega)
theorem endX_ret {δ ε : Type} {ts : List δ} {J Jx : List (δ × ε) → (Nat → Prop) → World → Prop} {fp0 fp1 fp2 fq tp tpy : Nat → Prop} {H0 : Nat} {W W2 : World} {T : List (δ × ε)} {e : Ending} (hf1 : ∀ k, fp1 k → fq k) (hft : ∀ k, tpy k → fq k ∧ H0 ≤ k)
    (hn : ∀ k, fp1 k → fp0 k ∨ H0 ≤ k) (hH : H0 ≤ W.heap.size) (hfw : FwdT fp1 tpy fp2 W W2) (hor : (e = .returned (.bool true) ∧ J T fp2 W2) ∨ (e = .returned (.bool false) ∧ Jx T fp2 W2)) (hT : T.map (·.1) = ts) :
    ∃ fp', FwdT fq tp fp' W W2 ∧ endX ts J Jx fp0 H0 .ret fp' W2 := by
  obtain ⟨h1, h2⟩ := endX_own (tp := tp) hf1 hft hn hH hfw
  refine ⟨fp2, h1, rfl, T, fp2, ?_, h2, fun k hk => hk⟩
  rcases hor with ⟨_, h⟩ | ⟨_, h⟩
  · exact .inl ⟨hT, h⟩
  · exact .inr ⟨by rw [hT]; exact List.prefix_refl _, h⟩
theorem endX_stop {δ ε : Type} {ts : List δ} {J Jx : List (δ × ε) → (Nat → Prop) → World → Prop} {fp0 fp1 fp2 fq tp tpy : Nat → Prop} {H0 : Nat} {W W2 : World} {T : List (δ × ε)} (hf1 : ∀ k, fp1 k → fq k) (hft : ∀ k, tpy k → fq k ∧ H0 ≤ k)
    (hn : ∀ k, fp1 k → fp0 k ∨ H0 ≤ k) (hH : H0 ≤ W.heap.size) (hfw : FwdT fp1 tpy fp2 W W2) (hjx : Jx T fp2 W2) (hT : T.map (·.1) <+: ts) :
    ∃ fp', FwdT fq tp fp' W W2 ∧ endX ts J Jx fp0 H0 .ret fp' W2 := by
  obtain ⟨h1, h2⟩ := endX_own (tp := tp) hf1 hft hn hH hfw
  exact ⟨fp2, h1, rfl, T, fp2, .inr ⟨hT, hjx⟩, h2, fun k hk => hk⟩

attribute [local go_sem] Oper.semAt_some

set_option maxRecDepth 100000 in
set_option maxHeartbeats 1600000 in
theorem each14_iter (eb b : Nat) (recs : List (List UInt8)) (ao : Option Addr) (cap : Nat) (rfp : Nat → Prop) (hl : recs.length ≤ 1073741824) :
    IterT Try.prog 121 #[.pointer (some ⟨eb, 0, none⟩)] encM (fun pre => pre.map (·.1) <+: toldRE (0, []) [] recs) (fun xs => xs.map (·.1) = toldRE (0, []) [] recs) (fun _ => True)
      (fun pre x tp W => toldM tp x W)
      (fun W => W.cell? ⟨eb, 0, none⟩ = some (.func (.func 126) #[] #[.pointer (some ⟨b, 0, none⟩)]) ∧ W.cell? ⟨b, 0, none⟩ = some (.slice ao recs.length cap) ∧ RdS (Rep.slice Rep.u8) rfp W ao recs ∧ ∀ k, rfp k → k < W.heap.size)
      (fun k => k = eb ∨ k = b ∨ rfp k) (fun _ => False) := by
  rintro ly J Jx fp w ⟨hce, hcb, hrd, hrl⟩ hfp hJ hJx _ hY h0
  have hq : ∀ (fn : Fn) (a b : Array Value) (w : World), (binOp .eql 153 (.func fn a b) .nilFunc).run Try.prog w = .ok (.bool false) w := fun _ _ _ _ => by kernel_rfl
  have heb : eb < w.heap.size := World.block_lt_of_cell? w _ hce
  have hbb : b < w.heap.size := World.block_lt_of_cell? w _ hcb
  have HJ := Lib.hid hJ
  have HJx := Lib.hid hJx
  have HY := Lib.hid hY
  have Hfp := Lib.hid hfp
  have Hcb := Lib.hid hcb
  have Hrd := Lib.hid hrd
  have Hrl := Lib.hid hrl
  have H0 := Lib.hid h0
  clear hJ hJx hY hfp hcb hrd hrl h0
  refine callsIn_of_wp_marks Try.func121 rfl trivial ?_
  simp only [Try.ntmps121, List.size_toArray, List.length_cons, List.length_nil, Nat.reduceAdd, Nat.reduceSub, Array.replicate_succ, Array.replicate_zero, List.push_toArray, List.append_toArray, List.nil_append, List.cons_append]
  gi_wp2_with fail
  obtain ⟨w1, hw1⟩ : ∃ w1, (w.alloc (Obj.cells #[Value.func (Fn.yield ly) #[] #[]] 184)).alloc (Obj.cells #[Value.int IntKind.u32 0, Value.slice none 0 0, Value.slice none 0 0] 186) = w1 := ⟨_, rfl⟩
  have y0 : w1.cell? ⟨w.heap.size, 0, none⟩ = some (.func (.yield ly) #[] #[]) := by rw [← hw1]; simp [go_sem, ↓IntWalk.iteOmega]
  have hb0 : MG (w.heap.size + 1) (0, []) [] none 0 none none 0 w1 := by
    rw [← hw1]
    exact ⟨by simp [go_sem, ↓IntWalk.iteOmega], by simp [go_sem, ↓IntWalk.iteOmega], by simp [go_sem, ↓IntWalk.iteOmega], by simp [go_sem, ↓IntWalk.iteOmega], by simp [go_sem, ↓IntWalk.iteOmega], by simp [go_sem, ↓IntWalk.iteOmega], OwnS.nil _ _ _ _, ⟨rfl, .inl rfl⟩, by simp, by simp, fun _ _ e _ => by cases e⟩
  have hs1 : w1.heap.size = w.heap.size + 2 := by rw [← hw1]; simp
  have hB1 : Below w.heap.size w w1 := by rw [← hw1]; exact (ext_alloc w _).alloc (by simp) _
  rw [hw1]
  have Y0 := Lib.hid y0
  have Hb0 := Lib.hid hb0
  have HB1 := Lib.hid hB1
  have Hs1 := Lib.hid hs1
  have hs1' : w.heap.size + 2 ≤ w1.heap.size := by omega
  clear hw1 y0 hb0 hB1 hs1
  have HV := vals_iter b recs ao cap rfp hl
  refine wpIn_rangeTS (gf := 126) (lb := #[.pointer (some ⟨b, 0, none⟩)]) rfl (enters_of Try.func126 (by kernel_rfl) rfl) HV.toT (fun _ => rfl)
    (fun k => fp k ∨ k = w.heap.size + 1) ?hfp ?hrs (fun k h => h.elim)
    (fun pre fq W => eachMI recs J fp w.heap.size (w.heap.size + 1) w1.heap.size pre fq W) (fun c pre fq W => endX (toldRE (0, []) [] recs) J Jx fp w.heap.size c fq W) ?hI ?hIx (fun _ _ _ _ => trivial) ?hPre ?h0
    [(12, fun x : RowV => x.2), (4, fun x : RowV => x.2)] ?assign ?body ?done ?stop
  case hfp =>
    rintro k (h | rfl)
    · exact ⟨by have := (Hfp.out k h).1; omega, fun hr => (Hfp.out k h).2 (.inr hr)⟩
    · refine ⟨by omega, fun hr => ?_⟩
      rcases hr with hr | hr
      · omega
      · have := Hrl.out _ hr; omega
  case hrs =>
    rintro k (rfl | h)
    · omega
    · have := Hrl.out _ h; omega
  case hI =>
    rintro pre fq A B ⟨T, fp1, row, last, ao, cap, g, lo, lc, gl, hj, ht, hb, hok, hlen, hn1, hn2, hn3, hn4, hf⟩ hs
    exact ⟨T, fp1, row, last, ao, cap, g, lo, lc, gl, HJ.out _ _ _ _ hj (hs.mono fun k hk => (hf k).2 (.inl hk)), ht, hb.stays hs ((hf _).2 (.inr (.inl rfl))) (fun k hk => (hf k).2 (.inr (.inr (.inl hk)))) (fun h0 b off e => (hf b).2 (.inr (.inr (.inr (hn3 h0 b off e))))), hok, hlen, hn1,
      fun k hk => ⟨(hn2 k hk).1, (hn2 k hk).2.1, Nat.lt_of_lt_of_le (hn2 k hk).2.2 hs.size⟩, hn3, hn4, hf⟩
  case hIx =>
    rintro c pre fq A B ⟨rfl, T, fp1, hj, hn, hf⟩ hs
    have hs' : Stays fp1 A B := hs.mono fun k hk => hf k hk
    exact ⟨rfl, T, fp1, hj.imp (fun h => ⟨h.1, HJ.out _ _ _ _ h.2 hs'⟩) (fun h => ⟨h.1, HJx.out _ _ _ _ h.2 hs'⟩), hn, hf⟩
  case hPre =>
    intro W hb
    exact ⟨(hb.cell (p := ⟨b, 0, none⟩) (by show b < w1.heap.size; omega)).trans ((HB1.out.cell (p := ⟨b, 0, none⟩) hbb).trans Hcb.out), (Hrd.out.ext HB1.out).ext hb⟩
  case h0 =>
    refine ⟨[], fp, (0, []), [], none, 0, none, none, 0, none, J_ext HJ.out H0.out (fun k hk => (Hfp.out k hk).1) HB1.out, fun rest => by simp, Hb0.out, ⟨by simp, by simp, by simp [sumA]⟩, by simp, fun h => ?_, by simp, by simp, fun k hk => .inl hk, fun k => by simp⟩
    have := (Hfp.out _ h).1
    omega
  case assign =>
    intro l x W K hK
    gi_wp2
    exact hK
  case stop =>
    rintro D c xs fq W hD _ ⟨rfl, T, fp1, hj, hn, hf⟩ honly hfo hlt hnD hk
    gi_wp2
    have hs : Stays fp1 W (W.putObj D (.deferred none)) := ⟨rfl, rfl, rfl, by simp, fun k hk => World.putObj_heap_other (fun e => hnD (e ▸ hf k hk))⟩
    refine leaveM1 hk (results_none rfl _ _ _) (IterEnd.mk T fp1 ?_ (fun k hk => ⟨hn k hk, by simpa using hlt k (hf k hk)⟩) (hj.imp (fun h => ⟨h.1, HJ.out _ _ _ _ h.2 hs⟩) (fun h => ⟨h.1, HJx.out _ _ _ _ h.2 hs⟩)))
    refine ((Only.of_below (fp := fun k => fp k ∨ False) HB1.out).trans honly ?_).putObj _ (fun h => by omega)
    rintro i hi ((h | h) | h)
    · exact .inl h
    · omega
    · exact .inr h
  case body =>
    rintro l0 pre fq tp x W Wy hl0 hr0 honly hok ⟨htp, ⟨ra, rc, hx2, hrc1, hrc2, hrr⟩, hgk⟩ ho0 hnl hflt htp2 ⟨T, fp1, row, last, ao', cap', g, lo, lc, gl, hj, ht, hb, hokp, hlen, hn1, hn2, hn3, hn4, hf⟩ hsz
    obtain ⟨r, xv⟩ := x
    simp only at hx2 hrc1 hrr
    subst hx2
    obtain ⟨rest, hrest⟩ := hok
    rw [List.map_append, List.append_assoc] at hrest
    have htold : toldRE (0, []) [] recs = T.map (·.1) ++ toldRE row last (r :: rest) := by rw [← hrest]; exact ht _
    have hB1s := HB1.out.size
    have hy0 : W.cell? ⟨w.heap.size, 0, none⟩ = some (.func (.yield ly) #[] #[]) := (honly.cell (by omega) (by
      rintro ((h | h) | h)
      · have := (Hfp.out _ h).1; omega
      · omega
      · exact h) 0).trans Y0.out
    have hon : Only (fun k => fp k ∨ False) w W := (Only.of_below (fp := fun k => fp k ∨ False) HB1.out).trans honly (by
      rintro i hi ((h | h) | h)
      · exact .inl h
      · omega
      · exact .inr h)
    have hrdS : RdS Rep.u8 rfp W ra r := hrr.only ho0 (fun k hk _ e => by have := Hrl.out k hk; omega)
    have hrdl : Rd W ra r.length (byteVals r) := hrdS.rdU8
    have hrf : 0 < r.length → ∀ b off, ra = some ⟨b, off, none⟩ → rfp b := fun h0 b off e => by
      rcases hrdS with h | ⟨b', off', h1, h2, _⟩
      · subst h; simp at h0
      · rw [e] at h1; cases h1; exact h2
    have hfp1 : ∀ k, fp1 k → k < W.heap.size := fun k hk => hflt k ((hf k).2 (.inl hk))
    have hf1q : ∀ k, fp1 k → fq k := fun k hk => (hf k).2 (.inl hk)
    have hprel : pre.length < 1073741824 := by
      have := congrArg List.length hrest
      simp at this; omega
    have hWs : w1.heap.size ≤ W.heap.size := honly.size
    have hMay := gmay14_any (w.heap.size + 1) row last r ao' cap' g lo lc ra rc W hb hrdl (by omega) hokp.2.2
    have hxo := keyE_ok r
    have hTb := toldRE_bad row last r rest
    have hTg := fun l => toldRE_ok row last r l
    have hmo := fun h => may_ok (row := row) (last := last) (k := r) h
    have hkg : ∀ k, keyE r = k → keyE r = k := fun _ h => h
    clear hkg
    generalize mayErr row last r = er at hMay hTb hTg hmo
    have hFull := fun W' h => full_any (w.heap.size + 1) row last ao' cap' lo lc (keyE r) W' h
    have hFn := full_not (row := row) (x := keyE r)
    generalize keyE r = x at hMay hxo hTg hmo hFull hFn
    generalize fullB row x = fb at hTg hFull hFn
    have HF := Lib.hid hf
    have HT := Lib.hid ht
    have HTo := Lib.hid htold
    have Hj := Lib.hid hj
    have Hb := Lib.hid hb
    have Hokp := Lib.hid hokp
    have Hn2 := Lib.hid hn2
    have Hn3 := Lib.hid hn3
    have Hn4 := Lib.hid hn4
    have Hon := Lib.hid hon
    have Hrest := Lib.hid hrest
    have Hfp1 := Lib.hid hfp1
    have Hf1q := Lib.hid hf1q
    have Hflt := Lib.hid hflt
    have HTb := Lib.hid hTb
    have HTg := Lib.hid hTg
    have Hmo := Lib.hid hmo
    have HMay := Lib.hid hMay
    have HFull := Lib.hid hFull
    have HFn := Lib.hid hFn
    have Hxo := Lib.hid hxo
    have Hrd1 := Lib.hid hrdl
    have Hrf := Lib.hid hrf
    have Hlen := Lib.hid hlen
    have Hprel := Lib.hid hprel
    have Hy0 := Lib.hid hy0
    have hWY : w.heap.size < W.heap.size := by omega
    have hWB : w.heap.size + 1 < W.heap.size := by omega
    clear hf ht htold hj hb hokp hn2 hn3 hn4 hon hrest htp htp2 hgk ho0 honly hrr hrc2 hrc1 hfp1 hf1q hflt HV hr0 hl0 hnl hrdS hrdl hrf hTb hTg hmo hMay hFull hFn hxo hlen hprel hy0
    obtain ⟨x0, x1, x2⟩ := x
    obtain ⟨fr, arcs⟩ := row
    simp only [edgeV] at HMay HFull
    by_cases her : er = 0
    · subst her
      obtain ⟨h12, hx2z, hcmp, hleft⟩ := Hmo.out rfl
      have hmay0 := HMay.out
      rw [show ((0 : Nat) : Int) = 0 from rfl] at hmay0
      have HMay := Lib.hid hmay0
      have H12 := Lib.hid h12
      have Hleft := Lib.hid hleft
      have HFq : Hid (∀ k, fq k → ¬ rfp k) := Lib.hid (fun k hk hr => by
        have h1 := Hrl.out k hr
        rcases (HF.out k).1 hk with h | h | h | h
        · rcases Hn4.out k h with h2 | h2
          · exact (Hfp.out k h2).2 (.inr (.inr hr))
          · omega
        · omega
        · have := (Hn2.out k (.inl h)).2.1; omega
        · have := (Hn2.out k (.inr h)).2.1; omega)
      have hfin : ∀ (T' : List EachM) (fp2 : Nat → Prop) (W5 W6 W7 : World) (ao6 : Option Addr) (cap6 : Nat) (g6 : Option Nat) (ao7 : Option Addr) (cap7 : Nat) (g7 : Option Nat), J T' fp2 W5 → T'.map (·.1) = T.map (·.1) ++ (if fb = true then [((fr, arcs), 0)] else []) → Only fq W W5 →
          (∀ k, fp2 k → (fp1 k ∨ g = some k ∨ W.heap.size ≤ k) ∧ k < W5.heap.size) → ¬ fp2 (w.heap.size + 1) → MG (w.heap.size + 1) (mtakeM (fr, arcs) (x0, x1, x2)) last ao6 cap6 g6 lo lc W6 → (∀ k, g6 = some k → (g = some k ∧ ¬ fp2 k) ∨ W5.heap.size ≤ k) →
          Only (fun k => k = w.heap.size + 1 ∨ (g = some k ∧ ¬ fp2 k)) W5 W6 → Own W7 ao7 cap7 g7 5 1 r.length (byteVals r) → (∀ k, g7 = some k → W6.heap.size ≤ k) → Below W6.heap.size W6 W7 →
          ∃ fp', FwdT fq tp fp' W (W7.setCell ⟨w.heap.size + 1, 2, none⟩ (.slice ao7 r.length cap7)) ∧ eachMI recs J fp w.heap.size (w.heap.size + 1) w1.heap.size (pre ++ [(r, .slice ra r.length rc)]) fp' (W7.setCell ⟨w.heap.size + 1, 2, none⟩ (.slice ao7 r.length cap7)) := by
        intro T' fp2 W5 W6 W7 ao6 cap6 g6 ao7 cap7 g7 hj5 hT5 ho5 hf2 hnB hM6 hg6 ho6 ho7 hg7 hB7
        have hO : Only (fun k => k = w.heap.size + 1 ∨ (g = some k ∧ ¬ fp2 k)) W5 (W7.setCell ⟨w.heap.size + 1, 2, none⟩ (.slice ao7 r.length cap7)) := (ho6.ext hB7).setCell (fun _ => .inl rfl) _
        have hs5 := ho5.size
        have hs6 := ho6.size
        have hs7 := hB7.size
        have hsF := hO.size
        have hg6l := hM6.own.lt
        have hfB : fq (w.heap.size + 1) := (HF.out _).2 (.inr (.inl rfl))
        have hg6n : ∀ k, g6 = some k → ¬ fp2 k ∧ w1.heap.size ≤ k ∧ k < W6.heap.size := fun k hk => by
          refine ⟨?_, ?_, hg6l k hk⟩
          · rcases hg6 k hk with h | h
            · exact h.2
            · exact fun h2 => by have := (hf2 k h2).2; omega
          · rcases hg6 k hk with h | h
            · exact (Hn2.out k (.inl h.1)).2.1
            · omega
        have hsz7 : W7.heap.size ≤ (W7.setCell ⟨w.heap.size + 1, 2, none⟩ (.slice ao7 r.length cap7)).heap.size := by simp
        have hg7l := ho7.lt
        refine ⟨fun k => fp2 k ∨ k = w.heap.size + 1 ∨ g6 = some k ∨ g7 = some k, ⟨ho5.trans hO (fun i _ h => h.elim (fun h => by rw [h]; exact hfB) (fun h => (HF.out i).2 (.inr (.inr (.inl h.1))))), fun k hk => ?_⟩,
          T', fp2, mtakeM (fr, arcs) (x0, x1, x2), r, ao6, cap6, g6, ao7, cap7, g7, HJ.out _ _ _ _ hj5 (hO.stays (fun k hk => ⟨(hf2 k hk).2, ?_⟩)), fun l => ?_, (hM6.ext hB7).keepLast ho7 ?_ ?_, takeM_ok Hokp.out Hxo.out Hleft.out, ?_, hnB, fun k hk => ?_, ?_, fun k hk => ?_, fun k => Iff.rfl⟩
        · rcases hk with hk | rfl | hk | hk
          · refine ⟨?_, Nat.lt_of_lt_of_le (hf2 k hk).2 hsF⟩
            rcases (hf2 k hk).1 with h | h | h
            · exact .inl (Hf1q.out k h)
            · exact .inl ((HF.out k).2 (.inr (.inr (.inl h))))
            · exact .inr (.inr h)
          · exact ⟨.inl hfB, by omega⟩
          · refine ⟨?_, by have := hg6l k hk; omega⟩
            rcases hg6 k hk with h | h
            · exact .inl ((HF.out k).2 (.inr (.inr (.inl h.1))))
            · exact .inr (.inr (by omega))
          · exact ⟨.inr (.inr (by have := hg7 k hk; omega)), by have := hg7l k hk; omega⟩
        · rintro (h | h)
          · subst h; exact hnB hk
          · exact h.2 hk
        · rw [List.map_append, List.append_assoc]
          show toldRE (0, []) [] (pre.map (·.1) ++ (r :: l)) = _
          rw [HT.out, HTg.out l rfl, hT5, List.append_assoc]
        · exact fun e => by have := hg7 _ e; omega
        · exact fun k hk e => by have := hg7 k hk; have := hg6l k e; omega
        · have h1 := (takeM_len (fr, arcs) (x0, x1, x2)).1
          have h2 := Hlen.out
          simp at h1 h2 ⊢; omega
        · rcases hk with hk | hk
          · exact ⟨(hg6n k hk).1, (hg6n k hk).2.1, by have := (hg6n k hk).2.2; omega⟩
          · exact ⟨fun h => by have := (hf2 k h).2; have := hg7 k hk; omega, by have := hg7 k hk; omega, by have := hg7l k hk; omega⟩
        · intro h0 b' off e
          rcases ho7.addr with ⟨h1, _⟩ | ⟨b2, h1, h2, _⟩
          · rw [h1] at e; cases e
          · rw [h2] at e; cases e; exact h1
        · rcases (hf2 k hk).1 with h | h | h
          · exact Hn4.out k h
          · have := (Hn2.out k (.inl h)).2.1; right; omega
          · right; omega
      have Hfin := Lib.hid hfin
      have h12' : (r.length : Int) = 12 := by omega
      clear hfin hmay0 h12 hx2z hcmp hleft
      have HCl := Lib.hid (fun (W' : World) (h : Only fq W W') => clone_any r ra rc W' (by have := H12.out; omega) (by have := H12.out; omega) (Hrd1.out.only h (fun h0 k off e h => HFq.out k h (Hrf.out h0 k off e))))
      cases fb
      · have HTk := Lib.hid (fun W' (hB : Below W.heap.size W W') => take_any (w.heap.size + 1) (fr, arcs) last ao' cap' g lo lc (x0, x1, x2) W' (Hb.out.ext hB) Hxo.out (by have := Hlen.out; have := Hprel.out; omega) Hleft.out Hokp.out.2.2)
        have dc0 := Hb.out.c0
        have dc1 := Hb.out.c1
        simp only [edgeV] at HTk dc0 dc1
        clear h12'
        gi_wp2_with (first
          | (gi_at_call 122; refine (CallsIn.inRound l0 (callsIn_wide.2 HMay.out)).mono ?_; rintro e W2 ⟨rfl, hB2⟩; have hs2 := hB2.size; have dc0 := (hB2.cell (p := ⟨w.heap.size + 1, 0, none⟩) hWB).trans dc0; have dc1 := (hB2.cell (p := ⟨w.heap.size + 1, 1, none⟩) hWB).trans dc1; have HB2 := Lib.hid hB2; clear hB2)
          | (gi_at_call 123; refine (CallsIn.inRound l0 (callsIn_wide.2 (HFull.out _ (Hb.out.toH.ext (HB2.out.trans (((ext_alloc W2 _).alloc (by simp) _).mono hs2)))))).mono ?_; rintro e W4 ⟨rfl, hB4⟩; have hs4 := hB4.size; have x0' := ((bcell hB4).1 W2.heap.size 0 (by simp; omega)).trans (show _ = some (Value.int .u32 (x0 : Nat)) by simp [go_sem, ↓IntWalk.iteOmega]); have x1' := ((bcell hB4).1 W2.heap.size 1 (by simp; omega)).trans (show _ = some (Value.int .u32 (x1 : Nat)) by simp [go_sem, ↓IntWalk.iteOmega]); have x2' := ((bcell hB4).1 W2.heap.size 2 (by simp; omega)).trans (show _ = some (Value.int .u32 (x2 : Nat)) by simp [go_sem, ↓IntWalk.iteOmega]); have HB4 := Lib.hid ((HB2.out.trans (((ext_alloc W2 _).alloc (by simp) _).mono hs2)).trans (hB4.mono (by simp; omega))); simp at hs4; clear hB4 dc0 dc1)
          | (gi_at_call 124; refine (CallsIn.inRound l0 (callsIn_wide.2 (HTk.out W4 HB4.out))).mono ?_; rintro e W6 ⟨rfl, ao6, cap6, g6, hM6, hg6, ho6⟩; have hs6 := ho6.size; have t2 := hM6.c2; have tf := hM6.f2; have HM6 := Lib.hid hM6; have Hg6 := Lib.hid hg6; have Ho6 := Lib.hid ho6; clear hM6 hg6 ho6)
          | (gi_at_call 125; refine (CallsIn.inRound l0 (callsIn_wide.2 (HCl.out W6 ((Only.of_below HB4.out).trans Ho6.out (fun i _ h => h.elim (fun h => by rw [h]; exact (HF.out _).2 (.inr (.inl rfl))) (fun h => (HF.out i).2 (.inr (.inr (.inl h.2))))))))).mono ?_; rintro e W7 ⟨ao7, cap7, g7, rfl, ho7, hg7, hB7⟩; have t2 := ((bcell hB7).1 (w.heap.size + 1) 2 HM6.out.lt).trans t2; have tf := ((bcell hB7).2 (w.heap.size + 1) 2 HM6.out.lt).trans tf; have Ho7 := Lib.hid ho7; have Hg7 := Lib.hid hg7; have HB7 := Lib.hid hB7; clear ho7 hg7 hB7))
        exact Hfin.out T fp1 W4 W6 W7 ao6 cap6 g6 ao7 cap7 g7 (J_ext HJ.out Hj.out Hfp1.out HB4.out) (by simp) (Only.of_below HB4.out) (fun k hk => ⟨.inl hk, by have := Hfp1.out k hk; omega⟩) hn1 HM6.out (fun k hk => (Hg6.out k hk).imp (fun h => ⟨h.2, (Hn2.out k (.inl h.2)).1⟩) id)
          (Ho6.out.mono (fun k _ hk => hk.imp id (fun h => ⟨h.2, (Hn2.out k (.inl h.2)).1⟩))) Ho7.out Hg7.out HB7.out
      · have hns := HFn.out rfl
        have HTk := Lib.hid (fun W' h => take_new (w.heap.size + 1) (fr, arcs) last ao' cap' lo lc (x0, x1, x2) W' h Hxo.out hns)
        have hT2 : (T ++ [(((fr, arcs), 0), (ao', cap'))] : List EachM).map (·.1) = T.map (·.1) ++ [((fr, arcs), 0)] := by simp
        have hT3 : (T ++ [(((fr, arcs), 0), (ao', cap'))] : List EachM).map (·.1) <+: toldRE (0, []) [] recs := by
          rw [hT2, HTo.out, HTg.out rest rfl, if_pos rfl, ← List.append_assoc]; exact List.prefix_append _ _
        have HT2 := Lib.hid hT2
        have HT3 := Lib.hid hT3
        have HYp := Lib.hid (fun W2 (hB2 : Below W.heap.size W W2) => (@_root_.id (YieldAt Fence.wide 0 Try.prog ly #[.agg #[.int .u32 (fr : Nat), .slice ao' arcs.length cap'], .int .i64 0] W2 _) (HY.out T fp1 (fun k => g = some k) (((fr, arcs), 0), (ao', cap')) W2 (J_ext HJ.out Hj.out Hfp1.out hB2)
          (fun k hk => Nat.lt_of_lt_of_le (Hfp1.out k hk) hB2.size) (fun k hk => ⟨by have := (Hn2.out k (.inl hk)).2.1; omega, by have := (Hn2.out k (.inl hk)).2.2; have := hB2.size; omega, (Hn2.out k (.inl hk)).1⟩) (Hon.out.ext hB2) hT3
          ⟨Hb.out.own.capLe.1, Hb.out.own.capLe.2, Hokp.out, ((Hb.out.own.ext hB2).rd.mono (fun b hb _ => hb.elim (fun h => h.elim) id))⟩)))
        have dc0 := Hb.out.c0
        have dc1 := Hb.out.c1
        simp only [edgeV] at HTk dc0 dc1
        clear hT2 hT3 hns h12'
        gi_wp2_with (first
          | (gi_at_call 122; refine (CallsIn.inRound l0 (callsIn_wide.2 HMay.out)).mono ?_; rintro e W2 ⟨rfl, hB2⟩; have hs2 := hB2.size; have dc0 := (hB2.cell (p := ⟨w.heap.size + 1, 0, none⟩) hWB).trans dc0; have dc1 := (hB2.cell (p := ⟨w.heap.size + 1, 1, none⟩) hWB).trans dc1; have HB2 := Lib.hid hB2; clear hB2)
          | (gi_at_call 123; refine (CallsIn.inRound l0 (callsIn_wide.2 (HFull.out _ (Hb.out.toH.ext (HB2.out.trans (((ext_alloc W2 _).alloc (by simp) _).mono hs2)))))).mono ?_; rintro e W4 ⟨rfl, hB4⟩; have hs4 := hB4.size; have x0' := ((bcell hB4).1 W2.heap.size 0 (by simp; omega)).trans (show _ = some (Value.int .u32 (x0 : Nat)) by simp [go_sem, ↓IntWalk.iteOmega]); have x1' := ((bcell hB4).1 W2.heap.size 1 (by simp; omega)).trans (show _ = some (Value.int .u32 (x1 : Nat)) by simp [go_sem, ↓IntWalk.iteOmega]); have x2' := ((bcell hB4).1 W2.heap.size 2 (by simp; omega)).trans (show _ = some (Value.int .u32 (x2 : Nat)) by simp [go_sem, ↓IntWalk.iteOmega]); have r0' := ((bcell hB4).1 (W2.heap.size + 1) 0 (by simp)).trans (show _ = some (Value.int .u32 (fr : Nat)) by simp [go_sem, ↓IntWalk.iteOmega]); have r1' := ((bcell hB4).1 (W2.heap.size + 1) 1 (by simp)).trans (show _ = some (Value.slice ao' arcs.length cap') by simp [go_sem, ↓IntWalk.iteOmega]); have HB4 := Lib.hid ((HB2.out.trans (((ext_alloc W2 _).alloc (by simp) _).mono hs2)).trans (hB4.mono (by simp; omega))); simp at hs4; have hy4 := (HB4.out.cell (p := ⟨w.heap.size, 0, none⟩) hWY).trans Hy0.out; clear hB4 dc0 dc1; obtain ⟨fn, tmps, assign, body, hy, hR⟩ := HYp.out W4 HB4.out; have HR := Lib.hid hR; clear hR))
        refine HR.out.mono ?_
        clear hy HR
        rintro e W5 ⟨fp2, hfw2, (⟨rfl, hj3⟩ | ⟨rfl, hjx3⟩)⟩
        · have hs5 := hfw2.only.size
          have hxn : ¬ fp1 W2.heap.size := fun h => by have := Hfp1.out _ h; omega
          have x0' := (hfw2.only.cell (by omega) hxn 0).trans x0'
          have x1' := (hfw2.only.cell (by omega) hxn 1).trans x1'
          have x2' := (hfw2.only.cell (by omega) hxn 2).trans x2'
          have hM5 := (Hb.out.toH.ext (Below.mono HB4.out (Nat.le_refl _))).only hfw2.only hn1 (fun h0 b off e h => (Hn2.out b (.inr (Hn3.out h0 b off e))).1 h)
          have HM5 := Lib.hid hM5
          have Hj3 := Lib.hid hj3
          have Hfw2 := Lib.hid hfw2
          have ho5 : Only fq W W5 := (Only.of_below HB4.out).trans hfw2.only (fun i _ h => Hf1q.out i h)
          have Ho5 := Lib.hid ho5
          clear hM5 hj3 hfw2 ho5 hxn
          gi_wp2_with (first
            | (gi_at_call 124; refine (CallsIn.inRound l0 (callsIn_wide.2 (HTk.out W5 HM5.out))).mono ?_; rintro e W6 ⟨rfl, ao6, cap6, g6, hM6, hg6, ho6⟩; have hs6 := ho6.size; have t2 := hM6.c2; have tf := hM6.f2; have HM6 := Lib.hid hM6; have Hg6 := Lib.hid hg6; have Ho6 := Lib.hid ho6; clear hM6 hg6 ho6)
            | (gi_at_call 125; refine (CallsIn.inRound l0 (callsIn_wide.2 (HCl.out W6 (Ho5.out.trans Ho6.out (fun i _ h => by rw [h]; exact (HF.out _).2 (.inr (.inl rfl))))))).mono ?_; rintro e W7 ⟨ao7, cap7, g7, rfl, ho7, hg7, hB7⟩; have t2 := ((bcell hB7).1 (w.heap.size + 1) 2 HM6.out.lt).trans t2; have tf := ((bcell hB7).2 (w.heap.size + 1) 2 HM6.out.lt).trans tf; have Ho7 := Lib.hid ho7; have Hg7 := Lib.hid hg7; have HB7 := Lib.hid hB7; clear ho7 hg7 hB7))
          exact Hfin.out _ fp2 W5 W6 W7 ao6 cap6 g6 ao7 cap7 g7 Hj3.out (by rw [HT2.out]; simp) Ho5.out (fun k hk => ⟨(Hfw2.out.own k hk).1.imp id (fun h => h.imp id (fun h => by omega)), (Hfw2.out.own k hk).2⟩)
            (fun h => (Hfw2.out.own _ h).1.elim hn1 (fun h => h.elim (fun h => by have := (Hn2.out _ (.inl h)).2.1; omega) (fun h => by omega))) HM6.out (fun k hk => .inr (Hg6.out k hk)) (Ho6.out.mono (fun k _ hk => .inl hk)) Ho7.out Hg7.out HB7.out
        · have hfw3 : FwdT fp1 (fun k => g = some k) fp2 W W5 := ⟨(Only.of_below HB4.out).trans hfw2.only (fun _ _ h => h), fun k hk => ⟨(hfw2.own k hk).1.elim .inl (fun h => h.elim (fun h => .inr (.inl h)) (fun h => .inr (.inr (by omega)))), (hfw2.own k hk).2⟩⟩
          have Hend := Lib.hid (endX_stop (ts := toldRE (0, []) [] recs) (Jx := Jx) (J := J) (fp0 := fp) (fq := fq) (tp := tp) Hf1q.out (fun k hk => ⟨(HF.out k).2 (.inr (.inr (.inl hk))), by have := (Hn2.out k (.inl hk)).2.1; omega⟩) Hn4.out (by omega) hfw3 hjx3 HT3.out)
          clear hfw2 hfw3 hjx3
          gi_wp2_with fail
          exact Hend.out
    · have hd : ((er : Int) != 0) = true := by simp; omega
      have hT2 : (T ++ [(((0, []), er), (none, 0))] : List EachM).map (·.1) = toldRE (0, []) [] recs := by
        rw [HTo.out, HTb.out her, List.map_append]; rfl
      have HT2 := Lib.hid hT2
      have HY2 := Lib.hid (fun W2 (hB2 : Below W.heap.size W W2) => (@_root_.id (YieldAt Fence.wide 0 Try.prog ly #[.agg #[.int .u32 0, .slice none 0 0], .int .i64 (er : Nat)] W2 _) (HY.out T fp1 (fun _ => False) (((0, []), er), (none, 0)) W2 (J_ext HJ.out Hj.out Hfp1.out hB2)
        (fun k hk => Nat.lt_of_lt_of_le (Hfp1.out k hk) hB2.size) (fun k hk => hk.elim) (Hon.out.ext hB2) (by rw [hT2]; exact List.prefix_refl _) ⟨by simp, by simp [maxLen], ⟨by simp, by simp, by simp [sumA]⟩, .inl rfl⟩)))
      clear hT2 her
      gi_wp2_with (first
        | (gi_at_call 122; refine (CallsIn.inRound l0 (callsIn_wide.2 HMay.out)).mono ?_; rintro e W2 ⟨rfl, hB2⟩; have hs2 := hB2.size; have hy2 := (hB2.cell (p := ⟨w.heap.size, 0, none⟩) hWY).trans Hy0.out; have HB2 := Lib.hid hB2; clear hB2; obtain ⟨fn, tmps, assign, body, hy, hR⟩ := HY2.out (W2.alloc (Obj.cells #[Value.int IntKind.u32 x0, Value.int IntKind.u32 x1, Value.int IntKind.u32 x2] 56)) (HB2.out.trans ((ext_alloc W2 _).mono hs2)); have HR := Lib.hid hR; clear hR))
      refine HR.out.mono ?_
      clear hy HR
      rintro e W3 ⟨fp2, hfw2, hor⟩
      have hs3 := hfw2.only.size
      simp at hs3
      have hfw3 : FwdT fp1 (fun _ => False) fp2 W W3 := ⟨(Only.of_below (HB2.out.trans ((ext_alloc W2 _).mono hs2))).trans hfw2.only (fun _ _ h => h), fun k hk => ⟨(hfw2.own k hk).1.elim .inl (fun h => h.elim False.elim (fun h => .inr (.inr (by simp at h; omega)))), (hfw2.own k hk).2⟩⟩
      have Hend := Lib.hid (endX_ret (ts := toldRE (0, []) [] recs) (Jx := Jx) (fp0 := fp) (fq := fq) (tp := tp) Hf1q.out (fun k hk => hk.elim) Hn4.out (by omega) hfw3 hor HT2.out)
      rcases hor with ⟨rfl, _⟩ | ⟨rfl, _⟩
      all_goals
        clear hfw2 hfw3
        gi_wp2_with fail
        exact Hend.out
  case done =>
    rintro D xs fq W hD hxs ⟨T, fp1, row, last, ao', cap', g, lo, lc, gl, hj, ht, hb, hokp, hlen, hn1, hn2, hn3, hn4, hf⟩ honly hfo hlt hnD hk
    have hy0 : W.cell? ⟨w.heap.size, 0, none⟩ = some (.func (.yield ly) #[] #[]) := (honly.cell (by omega) (by
      rintro ((h | h) | h)
      · have := (Hfp.out _ h).1; omega
      · omega
      · exact h) 0).trans Y0.out
    have hon : Only (fun k => fp k ∨ False) w W := (Only.of_below (fp := fun k => fp k ∨ False) HB1.out).trans honly (by
      rintro i hi ((h | h) | h)
      · exact .inl h
      · omega
      · exact .inr h)
    have hT : toldRE (0, []) [] recs = T.map (·.1) ++ if 0 < row.2.length then [(row, 0)] else [] := by
      have := ht []
      rw [List.append_nil, hxs, toldRE_nil] at this
      exact this
    have hfp1 : ∀ k, fp1 k → k < W.heap.size := fun k hk => hlt k ((hf k).2 (.inl hk))
    have hnD1 : ¬ fp1 D := fun h => hnD ((hf D).2 (.inl h))
    have hgD : g ≠ some D := fun h => hnD ((hf D).2 (.inr (.inr (.inl h))))
    have d1 := hb.c1
    have d0 := hb.c0
    have hDW : D < W.heap.size := (Array.getElem?_eq_some_iff.1 hk).1
    obtain ⟨fr, arcs⟩ := row
    simp only at d0 d1 hT hlen
    have HT := Lib.hid hT
    have Hj := Lib.hid hj
    have Hb := Lib.hid hb
    have Hokp := Lib.hid hokp
    have Hn2 := Lib.hid hn2
    have Hn4 := Lib.hid hn4
    have Hon := Lib.hid hon
    have Hfp1 := Lib.hid hfp1
    have HgD := Lib.hid hgD
    have Hk := Lib.hid hk
    clear hT hj hb hokp hn2 hn3 hn4 hon hfp1 hgD hk ht honly hfo hlt hf hxs hlen HV
    dsimp only
    by_cases hn0 : 0 < arcs.length
    · have hT2 : (T ++ [(((fr, arcs), 0), (ao', cap'))] : List EachM).map (·.1) = toldRE (0, []) [] recs := by rw [HT.out]; simp [hn0]
      obtain ⟨fn, tmps, assign, body, hy, hR⟩ := (@_root_.id (YieldAt Fence.wide 0 Try.prog ly #[.agg #[.int .u32 (fr : Nat), .slice ao' arcs.length cap'], .int .i64 0] W _) (HY.out T fp1 (fun k => g = some k) (((fr, arcs), 0), (ao', cap')) W Hj.out
        Hfp1.out (fun k hk => ⟨by have := (Hn2.out k (.inl hk)).2; omega, (Hn2.out k (.inl hk)).2.2, (Hn2.out k (.inl hk)).1⟩) Hon.out (by rw [hT2]; exact List.prefix_refl _)
        ⟨Hb.out.own.capLe.1, Hb.out.own.capLe.2, Hokp.out, Hb.out.own.rd.mono (fun b hb _ => hb.elim (fun h => h.elim) id)⟩))
      have HR := Lib.hid hR
      have HT2 := Lib.hid hT2
      have hd : decide ((0 : Int) < (arcs.length : Int)) = true := by simp; omega
      have hd2 : decide (0 < arcs.length) = true := by simp; omega
      clear hR hT2 hn0
      gi_wp2_with fail
      refine HR.out.mono ?_
      clear hy HR
      rintro e W3 ⟨fp2, hfw2, hor⟩
      have hn2D : ¬ fp2 D := fun h => (hfw2.own D h).1.elim hnD1 (fun h => h.elim HgD.out (fun h => by omega))
      have hs : Stays fp2 W3 (W3.putObj D (.deferred none)) := ⟨rfl, rfl, rfl, by simp, fun k hk => World.putObj_heap_other (fun e => hn2D (e ▸ hk))⟩
      have hon3 : Only (fun k => fp k ∨ False) w W3 := Hon.out.trans hfw2.only (fun i hi h => (Hn4.out i h).elim .inl (fun h => by omega))
      have hk3 : W3.heap[D]? = some (.deferred (some [])) := (hfw2.only.same D hDW hnD1).trans Hk.out
      have hfin : ∀ k, fp2 k → (fp k ∨ w.heap.size ≤ k) ∧ k < (W3.putObj D (.deferred none)).heap.size := fun k hk => ⟨(hfw2.own k hk).1.elim (Hn4.out k) (fun h => h.elim (fun h => .inr (by have := (Hn2.out k (.inl h)).2; omega)) (fun h => .inr (by have := Hon.out.size; omega))), by simpa using (hfw2.own k hk).2⟩
      have Hend := Lib.hid (fun v => IterEnd.mk (It := fun _ => False) (ok := fun pre : List EachM => pre.map (·.1) <+: toldRE (0, []) [] recs) (S := fun xs => xs.map (·.1) = toldRE (0, []) [] recs) (J := J) (Jx := Jx) (v := v) (T ++ [(((fr, arcs), 0), (ao', cap'))]) fp2 (hon3.putObj _ (fun h => by omega)) hfin
        (hor.imp (fun h => ⟨HT2.out, HJ.out _ _ _ _ h.2 hs⟩) (fun h => ⟨by rw [HT2.out]; exact List.prefix_refl _, HJx.out _ _ _ _ h.2 hs⟩)))
      have Hk3 := Lib.hid hk3
      rcases hor with ⟨rfl, _⟩ | ⟨rfl, _⟩
      all_goals
        clear hfw2 hs hon3 hk3 hfin
        gi_wp2_with fail
        exact leaveM1 Hk3.out (results_none rfl _ _ _) (Hend.out _)
    · have hd : decide ((0 : Int) < (arcs.length : Int)) = false := decide_eq_false (by omega)
      have hd2 : decide (0 < arcs.length) = false := decide_eq_false (by omega)
      have HT2 := Lib.hid (show T.map (·.1) = toldRE (0, []) [] recs by rw [HT.out]; simp [hn0])
      clear hn0
      gi_wp2_with fail
      have hs : Stays fp1 W (W.putObj D (.deferred none)) := ⟨rfl, rfl, rfl, by simp, fun k hk => World.putObj_heap_other (fun e => hnD1 (e ▸ hk))⟩
      exact leaveM1 Hk.out (results_none rfl _ _ _) (IterEnd.mk T fp1 (Hon.out.putObj _ (fun h => by omega)) (fun k hk => ⟨Hn4.out k hk, by simpa using Hfp1.out k hk⟩)
        (.inl ⟨HT2.out, HJ.out _ _ _ _ Hj.out hs⟩))
end Go.Proofs.Ytlgnpogmgpgdaaa

namespace Go.Proofs.Ytlgnpogmgpgdaaa
set_option linter.unusedSimpArgs false
set_option linter.unusedVariables false
set_option maxRecDepth 100000
open Go.RowKit

set_option maxHeartbeats 400000 in
theorem each14_any (fn : Fn) (a b : Array Value) (w : World) :
    Calls Try.prog 95 #[.func fn a b] w fun e w' => e = .returned (.func (.func 121) #[] #[.pointer (some ⟨w.heap.size, 0, none⟩)]) ∧ w' = w.alloc (.cells #[.func fn a b] 153) := by
  have hmf : ∀ (fn : Fn) (first cap : Array Value) (w : World), (Instr.makeFunc fn first cap).run Try.prog w = .ok (.func fn first cap) w := fun _ _ _ _ => rfl
  go_enter Try.func95, Try.ntmps95
  go_wp2
  go_ret
  exact ⟨rfl, rfl⟩

def rowRep : Rep RowD := Rep.prod Rep.u32 (Rep.slice arcRep)
theorem rowRep_ok {W : World} {fp : Nat → Prop} {p : RowD} {ao : Option Addr} {cap : Nat} (h1 : p.2.length ≤ cap) (h2 : cap ≤ maxLen) (h3 : p.1 < 4294967296) (h4 : RdS arcRep fp W ao p.2) :
    rowRep.ok W fp p [.int .u32 (p.1 : Nat), .slice ao p.2.length cap] := ⟨[_], [_], rfl, ⟨rfl, h3⟩, ao, cap, rfl, h1, h2, h4⟩
theorem rowElem : Elem Try.prog 47 80 2 32 (.agg #[.int .u32 0, .slice none 0 0]) := Elem.mk' Try.underlying47 (by kernel_rfl) rfl (by decide)
/-- one new element of several cells, as the translation lays it ahead of an append -/
theorem srcMany {P : Program} {tx e' : TypeId} (hk : P.underlying tx = some (.slice e')) (w : World) (cs : List Value) (t : TypeId) (k size : Nat) (hs : cs.length = size) (h1 : ∀ u ∈ cs, u.oneCell' = true) :
    Src P size tx (.slice (some ⟨w.heap.size, 0, none⟩) 1 k) 1 cs (w.alloc (.cells cs.toArray t)) :=
  Src.ofSlice (w.alloc (.cells cs.toArray t)) hk ⟨w.heap.size, 0, none⟩ 1 k cs (by omega) (fun j u hu => by
    rw [Addr.add_lit, Nat.zero_add, World.cell?_alloc_new]
    simpa using hu) h1

/-- what a call that hands back rows and a number leaves -/
def RowsRet (r : List RowD × Nat) (w : World) (e : Ending) (w' : World) : Prop :=
  ∃ ao cap, e = .returned (.tuple #[.slice ao r.1.length cap, .int .i64 (r.2 : Nat)]) ∧ r.1.length ≤ cap ∧ cap ≤ maxLen ∧ RdS rowRep (fun k => w.heap.size ≤ k) w' ao r.1 ∧ Below w.heap.size w w'

def rowsI (s : Nat) (pre : List EachM) (fq : Nat → Prop) (W : World) : Prop :=
  ∃ (ao : Option Addr) (cap : Nat) (g : Option Nat) (fe : Nat → Prop), (∀ x ∈ pre, x.1.2 = 0) ∧ W.cell? ⟨s + 1 + 1, 0, none⟩ = some (.slice ao (pre.map (·.1.1)).length cap) ∧ W.cell? ⟨s, 0, none⟩ = some (.slice none 0 0) ∧ W.cell? ⟨s + 1, 0, none⟩ = some (.int .i64 0) ∧
    (∀ j, j < 3 → W.frozen? ⟨s + j, 0, none⟩ = false) ∧ OwnS rowRep fe W ao cap g 80 (pre.map (·.1.1)) ∧ (∀ k, fe k → fq k ∧ s + 5 ≤ k ∧ g ≠ some k) ∧ (∀ k, g = some k → fq k ∧ s + 5 ≤ k) ∧ (∀ j, j < 3 → fq (s + j))
def rowsX (s : Nat) (c : Code) (pre : List EachM) (fq : Nat → Prop) (W : World) : Prop :=
  c = .ret ∧ fq s ∧ fq (s + 1) ∧ ∃ q x, pre = q ++ [x] ∧ x.1.2 ≠ 0 ∧ W.cell? ⟨s, 0, none⟩ = some (.slice none 0 0) ∧ W.cell? ⟨s + 1, 0, none⟩ = some (.int .i64 (x.1.2 : Nat))

attribute [local go_sem] Oper.semAt_some

set_option maxRecDepth 100000 in
set_option maxHeartbeats 1600000 in
theorem rows_any (recs : List (List UInt8)) (ao : Option Addr) (cap : Nat) (w : World) (hl : recs.length ≤ 1073741824) (hrd : RdS (Rep.slice Rep.u8) (fun k => k < w.heap.size) w ao recs) :
    Calls Try.prog 67 #[.slice ao recs.length cap] w (RowsRet (rowsOf recs) w) := by
  have hE := rowElem
  have hit := fun eb b => each14_iter eb b recs ao cap (fun k => k < w.heap.size) hl
  have Hrd := Lib.hid hrd
  clear hrd
  refine (callsIn_wide (n := 0)).1 (callsIn_of_wp_marks Try.func67 rfl trivial ?_)
  simp only [Try.ntmps67, List.size_toArray, List.length_cons, List.length_nil, Nat.reduceAdd, Nat.reduceSub, Array.replicate_succ, Array.replicate_zero, List.push_toArray, List.append_toArray, List.nil_append, List.cons_append]
  gi_wp2_with (first
    | (gi_at_call 96; refine (callsIn_wide.2 (vals_any _ _ _ _)).mono ?_; rintro e w2 ⟨rfl, rfl⟩)
    | (gi_at_call 95; refine (callsIn_wide.2 (each14_any _ _ _ _)).mono ?_; rintro e w2 ⟨rfl, rfl⟩))
  obtain ⟨w1, hw1⟩ : ∃ w1, (((((w.alloc (Obj.cells #[Value.slice none 0 0] 47)).alloc (Obj.cells #[Value.int IntKind.i64 0] 58)).alloc (Obj.cells #[Value.slice none 0 0] 47)).alloc (Obj.cells #[Value.slice ao recs.length cap] 108)).alloc
      (Obj.cells #[Value.func (Fn.func 126) #[] #[Value.pointer (some ⟨w.heap.size + 1 + 1 + 1, 0, none⟩)]] 153)) = w1 := ⟨_, rfl⟩
  have hs1 : w1.heap.size = w.heap.size + 5 := by rw [← hw1]; simp
  have hB1 : Below w.heap.size w w1 := by rw [← hw1]; exact ((((ext_alloc w _).alloc (by simp) _).alloc (by simp; omega) _).alloc (by simp; omega) _).alloc (by simp; omega) _
  have c4 : w1.cell? ⟨w.heap.size + 1 + 1 + 1 + 1, 0, none⟩ = some (.func (.func 126) #[] #[.pointer (some ⟨w.heap.size + 1 + 1 + 1, 0, none⟩)]) := by rw [← hw1]; simp [go_sem, ↓IntWalk.iteOmega]
  have c3 : w1.cell? ⟨w.heap.size + 1 + 1 + 1, 0, none⟩ = some (.slice ao recs.length cap) := by rw [← hw1]; simp [go_sem, ↓IntWalk.iteOmega]
  have hI0 : rowsI w.heap.size [] (fun k => k = w.heap.size ∨ k = w.heap.size + 1 ∨ k = w.heap.size + 2) w1 := by
    rw [← hw1]
    refine ⟨none, 0, none, fun _ => False, by simp, by simp [go_sem, ↓IntWalk.iteOmega], by simp [go_sem, ↓IntWalk.iteOmega], by simp [go_sem, ↓IntWalk.iteOmega], fun j hj => ?_, OwnS.nil _ _ _ _, fun k h => h.elim, (fun k h => by cases h), fun j hj => by omega⟩
    simp only [go_sem]
    simp
    omega
  rw [hw1]
  have HB1 := Lib.hid hB1
  have HI0 := Lib.hid hI0
  have hs1' : w.heap.size + 5 ≤ w1.heap.size := by omega
  clear hw1 hs1 hB1 hI0
  refine wpIn_rangeTB (gf := 121) (lb := #[.pointer (some ⟨w.heap.size + 1 + 1 + 1 + 1, 0, none⟩)]) rfl (enters_of Try.func121 (by kernel_rfl) rfl) (hit _ (w.heap.size + 1 + 1 + 1)) (fun _ => rfl)
    (fun k => k = w.heap.size ∨ k = w.heap.size + 1 ∨ k = w.heap.size + 2) (fun k h => by omega) (fun k h => by omega) (fun k h => h.elim)
    (fun pre fq W => rowsI w.heap.size pre fq W) (fun c pre fq W => rowsX w.heap.size c pre fq W) ?hI ?hIx (fun _ _ _ _ => trivial) ?hPre HI0.out
    [(10, fun x : EachM => .agg #[.int .u32 (x.1.1.1 : Nat), .slice x.2.1 x.1.1.2.length x.2.2]), (11, fun x => .int .i64 (x.1.2 : Nat)), (6, fun x => .int .i64 (x.1.2 : Nat))] 5 80 (fun x => #[.int .u32 (x.1.1.1 : Nat), .slice x.2.1 x.1.1.2.length x.2.2]) ?assign ?body ?done ?stop
  case hI =>
    rintro pre fq A B ⟨ao', cap', g, fe, h0, h1, h2, h3, h4, h5, h6, h7, h8⟩ hs
    have e0 := h8 0 (by omega)
    have e1 := h8 1 (by omega)
    have e2 := h8 2 (by omega)
    exact ⟨ao', cap', g, fe, h0, (hs.cell e2 0).trans h1, (hs.cell e0 0).trans h2, (hs.cell e1 0).trans h3, fun j hj => (hs.frozen (h8 j hj) 0).trans (h4 j hj), h5.stays hs (fun b hb _ => hb.elim (fun h => (h6 b h).1) (fun h => (h7 b h).1)), h6, h7, h8⟩
  case hIx =>
    rintro c pre fq A B ⟨rfl, h1, h2, q, x, h3, h4, h5, h6⟩ hs
    exact ⟨rfl, h1, h2, q, x, h3, h4, (hs.cell h1 0).trans h5, (hs.cell h2 0).trans h6⟩
  case hPre =>
    intro W hb
    have hsz := hb.size
    exact ⟨((bcell hb).1 _ 0 (by omega)).trans c4, ((bcell hb).1 _ 0 (by omega)).trans c3, (Hrd.out.ext HB1.out).ext hb, fun k h => by omega⟩
  case assign =>
    intro l x W K hK
    rw [show encM x = #[.agg #[.int .u32 (x.1.1.1 : Nat), .slice x.2.1 x.1.1.2.length x.2.2], .int .i64 (x.1.2 : Nat)] from rfl]
    gi_wp2
    exact hK
  case body =>
    rintro l0 pre fq tp x W Wy q hq hl0 hr0 honly hok ⟨hxc, hxm, hxi, hxr⟩ ho0 hnl hflt htp ⟨ao', cap', g, fe, h0, h1, h2, h3, h4, h5, h6, h7, h8⟩ hsz
    simp only [List.foldl_cons, List.foldl_nil, List.setIfInBounds_toArray, List.set_cons_zero, List.set_cons_succ]
    obtain ⟨⟨p, er⟩, ax, cx⟩ := x
    simp only at hxc hxm hxi hxr hq
    have hpl : pre.length ≤ recs.length + 1 := by
      have h1 := hok.length_le
      have h2 := toldRE_len recs (0, []) []
      simp at h1; omega
    have hqb := cell_of_row W q 0 _ _ _ hq
    have hqb1 := cell_of_row W q 1 _ _ _ hq
    simp only [List.getElem?_toArray, List.getElem?_cons_zero, List.getElem?_cons_succ] at hqb hqb1
    dsimp only
    have f0 := h4 0 (by omega)
    have f1 := h4 1 (by omega)
    have f2 := h4 2 (by omega)
    rw [Nat.add_zero] at f0
    rw [show w.heap.size + 2 = w.heap.size + 1 + 1 from rfl] at f2
    have q0 := h8 0 (by omega)
    have q1 := h8 1 (by omega)
    have q2 := h8 2 (by omega)
    have hor := hxr.only ho0 (fun b hb _ e => by have := (htp b hb).2.2.2; omega)
    have Hor := Lib.hid hor
    have Hor0 := Lib.hid hok
    have H5 := Lib.hid h5
    have H6 := Lib.hid h6
    have H7 := Lib.hid h7
    have H8 := Lib.hid h8
    have H0 := Lib.hid h0
    have H4 := Lib.hid h4
    have Hflt := Lib.hid hflt
    have Htp := Lib.hid htp
    have Hsy := Lib.hid ho0.size
    have hpl2 : (pre.map (·.1.1)).length ≤ recs.length + 1 := by simpa using hpl
    clear hor hok h5 h6 h7 h8 h0 h4 hflt htp hq hr0 hl0 hnl ho0 honly hxr hit
    by_cases he : er = 0
    · subst he
      obtain ⟨css, hown0, hall⟩ := H5.out
      have Hall := Lib.hid hall
      have hown : Own W ao' cap' g 80 2 pre.length css.flatten := by rw [List.length_map] at hown0; exact hown0
      rw [List.length_map] at h1
      have hgO : ∀ j, j < 3 → g ≠ some (w.heap.size + j) := fun j hj e => by have := (H7.out _ e).2; omega
      have HgO := Lib.hid hgO
      have Hown := Lib.hid hown
      clear hall hown0 hgO hown
      gi_wp2_with (gi_at_builtin; refine wpListIn_app rfl (.tmp 15) (.tmp 17) 47 47 rfl hE (Hown.out.alloc _) rfl rfl (srcMany Try.underlying47 _ _ _ _ 2 rfl (by simp [Value.oneCell'])) (by simp [maxLen]; omega) (by omega) ?_; intro ao3 cap3 g3 W3 ho3 hg3 hon3; have hon4 : Only (fun k => g = some k) W W3 := ((Only.refl (fun k => g = some k) W).alloc _).trans hon3 (fun _ _ h => h); have e1 := (hon4.cell (Hflt.out _ q2) (HgO.out 2 (by omega)) 0).trans h1; have e2 := (hon4.frozen (Hflt.out _ q2) (HgO.out 2 (by omega)) 0).trans f2; have Ho3 := Lib.hid ho3; have Hg3 := Lib.hid hg3; have Hon4 := Lib.hid hon4; clear ho3 hg3 hon3 hon4)
      have hsz3 : W.heap.size ≤ W3.heap.size := Hon4.out.size
      have hg3' : ∀ k, g3 = some k → g = some k ∨ W.heap.size ≤ k := fun k h => by
        rcases Hg3.out with rfl | rfl
        · exact .inl h
        · cases h; right; simp
      have q0' := Hflt.out _ q0
      have q1' := Hflt.out _ q1
      have q2' := Hflt.out _ q2
      have hO : Only fq W (W3.setCell ⟨w.heap.size + 1 + 1, 0, none⟩ (.slice ao3 (pre.length + 1) cap3)) := (Hon4.out.mono (fun k _ hk => (H7.out k hk).1)).setCell (fun _ => q2) _
      have hfe : ∀ b, (fe b ∨ tp b) → b < W.heap.size ∧ g ≠ some b ∧ w.heap.size + 5 ≤ b := fun b hb => by
        rcases hb with h | h
        · exact ⟨Hflt.out b (H6.out b h).1, (H6.out b h).2.2, (H6.out b h).2.1⟩
        · exact ⟨by have := (Htp.out b h).2.1; have := Hsy.out; omega, fun e => (Htp.out b h).2.2.1 (H7.out b e).1, by have := (Htp.out b h).1; omega⟩
      have hS : OwnS rowRep (fun k => fe k ∨ tp k) W3 ao3 cap3 g3 80 (pre.map (·.1.1) ++ [p]) := by
        refine OwnS.snoc (w := W) (forall2_imp (fun x cs h => rowRep.mono h (fun b hb _ => .inl hb)) Hall.out) (cs := [.int .u32 (p.1 : Nat), .slice ax p.2.length cx]) (rowRep_ok hxc hxm hxi.1 ?_) (by rw [List.length_map]; exact Ho3.out) (fun b hb hl => Hon4.out.same b hl (hfe b hb).2.1) hsz3
        exact (Hor.out.only Hon4.out (fun b hb hl => (hfe b (.inr hb)).2.1)).mono (fun b hb _ => .inr hb)
      refine ⟨fun k => k = w.heap.size ∨ k = w.heap.size + 1 ∨ k = w.heap.size + 2 ∨ fe k ∨ tp k ∨ g3 = some k, ⟨hO, fun k hk => ?_⟩, ao3, cap3, g3, fun k => fe k ∨ tp k, ?_, ?_, ?_, ?_, ?_, ?_, fun k hk => ⟨by
        rcases hk with h | h
        · exact .inr (.inr (.inr (.inl h)))
        · exact .inr (.inr (.inr (.inr (.inl h)))), (hfe k hk).2.2, fun e => (hg3' k e).elim (hfe k hk).2.1 (fun h => by have := (hfe k hk).1; omega)⟩, fun k hk => ⟨by simp [hk], (hg3' k hk).elim (fun h => (H7.out k h).2) (fun h => by omega)⟩, fun j hj => by omega⟩
      · rw [World.size_setCell]
        rcases hk with rfl | rfl | rfl | h | h | h
        · exact ⟨.inl q0, by omega⟩
        · exact ⟨.inl q1, by omega⟩
        · exact ⟨.inl q2, by omega⟩
        · exact ⟨.inl (H6.out k h).1, by have := (hfe k (.inl h)).1; omega⟩
        · exact ⟨.inr (.inl h), by have := (hfe k (.inr h)).1; omega⟩
        · exact ⟨(hg3' k h).elim (fun h => .inl (H7.out k h).1) (fun h => .inr (.inr h)), Ho3.out.lt k h⟩
      · intro x hx
        rcases List.mem_append.1 hx with h | h
        · exact H0.out x h
        · rw [List.mem_singleton.1 h]
      · simp [cell_set_ite, e1]
      · simp only [cell_set_ite]
        rw [if_neg (by omega)]
        exact (Hon4.out.cell q0' (HgO.out 0 (by omega)) 0).trans h2
      · simp only [cell_set_ite]
        rw [if_neg (by omega)]
        exact (Hon4.out.cell q1' (HgO.out 1 (by omega)) 0).trans h3
      · intro j hj
        rw [World.frozen?_setCell, Hon4.out.frozen (Hflt.out _ (H8.out j hj)) (HgO.out j hj) 0]
        exact H4.out j hj
      · rw [List.map_append]
        refine hS.keep (fun b hb hl => Below.heap_setCell _ _ _ _ (fun e => ?_)) (by simp)
        simp only at e
        rcases hb with h | h
        · have := (hfe b h).2.2; omega
        · rcases hg3' b h with h | h
          · exact HgO.out 2 (by omega) (by rw [h, e])
          · omega
    · have hd : ((er : Int) != 0) = true := by simp; omega
      gi_wp2_with fail
      have q0' := Hflt.out _ q0
      have q1' := Hflt.out _ q1
      refine ⟨fq, ⟨((Only.refl fq W).setCell (fun _ => q0) _).setCell (fun _ => q1) _, fun k hk => ⟨.inl hk, by simpa using Hflt.out k hk⟩⟩, rfl, q0, q1, pre, ((p, er), ax, cx), rfl, he, ?_, ?_⟩
      · simp [cell_set_ite, h2]
      · simp [cell_set_ite, h3]
  case done =>
    rintro D xs fq W hD hxs ⟨ao', cap', g, fe, h0, h1, h2, h3, h4, h5, h6, h7, h8⟩ honly hfo hlt hnD hk
    have Hp := Lib.hid (toldRE_all hxs h0)
    have f0 := h4 0 (by omega)
    have f1 := h4 1 (by omega)
    rw [Nat.add_zero] at f0
    have hbW : Below w.heap.size w W := HB1.out.trans (honly.below (by omega) (by rintro k hk (h | h) <;> first | omega | exact h))
    have hrd := h5.rd
    have hcl := h5.capLe
    have hgl := h5.lt
    have hDW : D < W.heap.size := (Array.getElem?_eq_some_iff.1 hk).1
    have Hbw := Lib.hid hbW
    have Hrr := Lib.hid hrd
    have Hcl := Lib.hid hcl
    have H6 := Lib.hid h6
    have H7 := Lib.hid h7
    have Hnd := Lib.hid hnD
    have Hk := Lib.hid hk
    clear hbW hrd hcl h6 h7 hnD hk h5 h4 h0 hxs honly hfo hlt h8 hit
    dsimp only
    gi_wp2_with fail
    have hW1 := Hbw.out.size
    refine leaveM1 (v := .tuple #[.slice ao' (xs.map (·.1.1)).length cap', .int .i64 0]) ?_ ?_ ?_
    · rw [Below.heap_setCell _ _ _ _ (by simp; omega), Below.heap_setCell _ _ _ _ (by simp; omega)]; exact Hk.out
    · have n0 : w.heap.size ≠ D := by omega
      have n1 : w.heap.size + 1 ≠ D := by omega
      simp [results, Try.results67, go_sem, n0, n1, cell_set_ite, h2, h3]
    · rw [Hp.out]
      refine ⟨ao', cap', rfl, Hcl.out.1, Hcl.out.2, ?_, ?_⟩
      · refine (Hrr.out.keep (fun b hb hl => ?_) (by simp)).mono (fun b hb _ => by
          rcases hb with h | h
          · have := (H6.out b h).2.1; omega
          · have := (H7.out b h).2; omega)
        have hb5 : w.heap.size + 5 ≤ b ∧ b ≠ D := by
          rcases hb with h | h
          · exact ⟨(H6.out b h).2.1, fun e => Hnd.out (e ▸ (H6.out b h).1)⟩
          · exact ⟨(H7.out b h).2, fun e => Hnd.out (e ▸ (H7.out b h).1)⟩
        rw [World.putObj_heap_other hb5.2, Below.heap_setCell _ _ _ _ (by simp; omega), Below.heap_setCell _ _ _ _ (by simp; omega)]
      · exact ext_put ((Hbw.out.setCell (by simp) _).setCell (by simp) _) (by omega)
  case stop =>
    rintro D c xs fq W hD hok ⟨rfl, q0, q1, pre, x, rfl, he, h2, h3⟩ honly hfo hlt hnD hk
    have hp := toldRE_stop hok he
    have hbW : Below w.heap.size w W := HB1.out.trans (honly.below (by omega) (by rintro k hk (h | h) <;> first | omega | exact h))
    gi_wp2
    refine leaveM1 (v := .tuple #[.slice none 0 0, .int .i64 (x.1.2 : Nat)]) hk ?_ (by rw [hp]; exact ⟨none, 0, rfl, by simp, by simp [maxLen], .inl rfl, ext_put hbW (by omega)⟩)
    have n0 : w.heap.size ≠ D := by omega
    have n1 : w.heap.size + 1 ≠ D := by omega
    simp [results, Try.results67, go_sem, n0, n1, h2, h3]
end Go.Proofs.Ytlgnpogmgpgdaaa

namespace Go.Proofs.Ytlgnpogmgpgdaaa
set_option linter.unusedSimpArgs false
set_option linter.unusedVariables false
set_option maxRecDepth 100000
open Go.RowKit

theorem RdS.css {α : Type} {R : Rep α} {fp : Nat → Prop} {w : World} {b : Nat} : ∀ {l : List α} {off : Nat}, RdS R fp w (some ⟨b, off, none⟩) l →
    ∃ css, All2 (fun x cs => R.ok w fp x cs) l css ∧ ∀ j u, css.flatten[j]? = some u → w.cell? ⟨b, off + j, none⟩ = some u
  | [], off, h => ⟨[], .nil, fun j u hu => by simp at hu⟩
  | x :: l, off, h => by
    obtain ⟨b', off', cs, e, _, _, hx, hc⟩ := h.at 0 (by simp)
    cases e
    obtain ⟨css, h1, h2⟩ := RdS.css (l := l) (by simpa using h.drop 1)
    refine ⟨cs :: css, .cons hx h1, fun j u hu => ?_⟩
    rw [List.flatten_cons] at hu
    by_cases hj : j < R.size
    · rw [List.getElem?_append_left (by rw [R.len hx]; exact hj)] at hu
      rw [← hu, ← hc j hj]; simp
    · rw [List.getElem?_append_right (by rw [R.len hx]; omega), R.len hx] at hu
      have := h2 _ _ hu
      rw [show off + R.size + (j - R.size) = off + j by omega] at this
      exact this
/-- a representation whose cells are plain -/
def OneC {α : Type} (R : Rep α) : Prop := ∀ {w : World} {fp : Nat → Prop} {x : α} {cs : List Value}, R.ok w fp x cs → ∀ u ∈ cs, u.oneCell' = true
theorem OneC.nat (k : IntKind) (b : Nat) : OneC (Rep.nat k b) := fun h u hu => by rw [h.1, List.mem_singleton] at hu; subst hu; rfl
theorem OneC.slice {α : Type} (R : Rep α) : OneC (Rep.slice R) := fun h u hu => by obtain ⟨a, c, rfl, _⟩ := h; rw [List.mem_singleton.1 hu]; rfl
theorem OneC.prod {α β : Type} {R : Rep α} {S : Rep β} (h1 : OneC R) (h2 : OneC S) : OneC (R.prod S) := fun h u hu => by
  obtain ⟨c, d, rfl, h3, h4⟩ := h
  rcases List.mem_append.1 hu with h | h
  · exact h1 h3 u h
  · exact h2 h4 u h
theorem OneC.all {α : Type} {R : Rep α} (ho : OneC R) {fp : Nat → Prop} {w : World} : ∀ {l : List α} {css : List (List Value)}, All2 (fun x cs => R.ok w fp x cs) l css → ∀ u ∈ css.flatten, u.oneCell' = true
  | _, _, .nil => fun u hu => by simp at hu
  | _, _, .cons h1 h2 => fun u hu => by
    rw [List.flatten_cons] at hu
    rcases List.mem_append.1 hu with h | h
    · exact ho h1 u h
    · exact ho.all h2 u h
/-- whatever reads as a slice, as what is appended -/
theorem RdS.srcAll {α : Type} {R : Rep α} (ho : OneC R) {P : Program} {tx e' : TypeId} (hk : P.underlying tx = some (.slice e')) {fp : Nat → Prop} {w : World} {ao : Option Addr} {l : List α} (h : RdS R fp w ao l) :
    ∃ css, All2 (fun x cs => R.ok w fp x cs) l css ∧ ∀ W', Below w.heap.size w W' → ∀ cap, Src P R.size tx (.slice ao l.length cap) l.length css.flatten W' := by
  rcases Nat.eq_zero_or_pos l.length with h0 | h0
  · obtain rfl := List.eq_nil_of_length_eq_zero h0
    refine ⟨[], .nil, fun W' _ cap => ?_⟩
    cases ao with
    | none => exact Src.ofNil _ hk cap
    | some a => exact Src.ofSlice W' hk a 0 cap [] (by simp) (fun j u hu => by simp at hu) (fun u hu => by simp at hu)
  · obtain ⟨b, off, _, rfl, _, hb, _, _⟩ := h.at 0 h0
    obtain ⟨css, h1, h2⟩ := h.css
    refine ⟨css, h1, fun W' hB cap => Src.ofSlice W' hk ⟨b, off, none⟩ l.length cap css.flatten (all2_len h1) (fun j u hu => ?_) (ho.all h1)⟩
    rw [Addr.add_lit]
    exact ((bcell hB).1 b (off + j) hb).trans (h2 j u hu)
/-- what was put together reads -/
theorem rd_join {α : Type} {R : Rep α} {fp : Nat → Prop} {w w' : World} {ao : Option Addr} {cap : Nat} {g : Option Nat} {e : TypeId} {l : List α} {css : List (List Value)} {n : Nat} {xs : List Value} (h : All2 (fun x cs => R.ok w fp x cs) l css) (ho : Own w' ao cap g e R.size n xs) (hn : n = l.length) (hx : xs = css.flatten)
    (hk : ∀ b, fp b → b < w.heap.size → w'.heap[b]? = w.heap[b]?) (hs : w.heap.size ≤ w'.heap.size) : RdS R (fun b => fp b ∨ g = some b) w' ao l := by
  subst hn hx
  exact OwnS.rd ⟨css, ho, forall2_imp (fun x cs h => R.keep h hk hs) h⟩
theorem all2_mono {α : Type} {R : Rep α} {fp fp' : Nat → Prop} {w w' : World} {l : List α} {css : List (List Value)} (h : All2 (fun x cs => R.ok w fp x cs) l css) (hk : ∀ b, fp b → b < w.heap.size → w'.heap[b]? = w.heap[b]?) (hs : w.heap.size ≤ w'.heap.size) (hm : ∀ b, fp b → fp' b) : All2 (fun x cs => R.ok w' fp' x cs) l css :=
  forall2_imp (fun x cs h => R.mono (R.keep h hk hs) (fun b hb _ => hm b hb)) h
theorem heap_alloc_ite (w : World) (c : Array Value) (t : TypeId) (n : Nat) : (w.alloc (.cells c t)).heap[n]? = if n = w.heap.size then some (.cells c t (0, 0)) else w.heap[n]? := by
  split
  · rename_i h; subst h; exact heap_alloc_new w _
  · rename_i h; unfold World.alloc; simp only [Array.getElem?_push]; rw [if_neg h]
theorem drew_heap (w : World) : w.drew.heap = w.heap := rfl
theorem own_empty {W : World} {b : Nat} {e : TypeId} {size : Nat} (h : W.heap[b]? = some (.cells #[] e (0, 0))) : Own W (some ⟨b, 0, none⟩) 0 (some b) e size 0 [] :=
  ⟨by simp, .inr ⟨b, #[], rfl, rfl, h, Nat.le_refl _, by simp [maxLen], by simp, by simp⟩⟩
theorem srcBlk {P : Program} {tx e' : TypeId} (hk : P.underlying tx = some (.slice e')) {W : World} (cs : List Value) {t : TypeId} {k b : Nat} (size : Nat) (hb : W.heap[b]? = some (.cells cs.toArray t (0, 0))) (hs : cs.length = size) (h1 : ∀ u ∈ cs, u.oneCell' = true) :
    Src P size tx (.slice (some ⟨b, 0, none⟩) 1 k) 1 cs W :=
  Src.ofSlice W hk ⟨b, 0, none⟩ 1 k cs (by omega) (fun j u hu => by
    rw [Addr.add_lit, Nat.zero_add, cell_of_row W b j _ _ _ hb]
    simpa using hu) h1
theorem oneArc : OneC arcRep := OneC.prod (OneC.nat _ _) (OneC.nat _ _)
theorem oneRow : OneC rowRep := OneC.prod (OneC.nat _ _) (OneC.slice _)
theorem rd_pos {α : Type} {R : Rep α} {fp : Nat → Prop} {w : World} {ao : Option Addr} {l : List α} (h : RdS R fp w ao l) (h0 : 0 < l.length) : ∃ b off, ao = some ⟨b, off, none⟩ ∧ fp b ∧ b < w.heap.size := by
  obtain ⟨b, off, _, h1, h2, h3, _⟩ := h.at 0 h0
  exact ⟨b, off, h1, h2, h3⟩
/-- a row of those that lie somewhere -/
theorem RdS.row {fp : Nat → Prop} {w : World} {ao : Option Addr} {l : List RowD} (h : RdS rowRep fp w ao l) (k : Nat) (hk : k < l.length) :
    ∃ b off ra rc, ao = some ⟨b, off, none⟩ ∧ b < w.heap.size ∧ w.cell? ⟨b, off + k * 2, none⟩ = some (.int .u32 (l[k].1 : Nat)) ∧ w.cell? ⟨b, off + k * 2 + 1, none⟩ = some (.slice ra l[k].2.length rc) ∧
      l[k].1 < 4294967296 ∧ l[k].2.length ≤ rc ∧ rc ≤ maxLen ∧ RdS arcRep fp w ra l[k].2 := by
  obtain ⟨b, off, cs, rfl, _, hb, ⟨c, d, rfl, ⟨rfl, h1⟩, ra, rc, rfl, h2, h3, h4⟩, hc⟩ := h.at k hk
  exact ⟨b, off, ra, rc, rfl, hb, hc 0 (by decide), hc 1 (by decide), h1, h2, h3, h4⟩

/-- rows, with an edge more -/
def withR (l : List RowD) (x : EdgeD) : List RowD := match l.getLast? with
  | some r => if r.1 = x.1 then l.dropLast ++ [(x.1, addArc r.2 x)] else l ++ [(x.1, [(x.2.1, x.2.2)])]
  | none => [(x.1, [(x.2.1, x.2.2)])]
def RowsOne (l : List RowD) (fp : Nat → Prop) (w : World) (e : Ending) (w' : World) : Prop :=
  ∃ ao cap, e = .returned (.slice ao l.length cap) ∧ l.length ≤ cap ∧ cap ≤ maxLen ∧ RdS rowRep (fun k => fp k ∨ w.heap.size ≤ k) w' ao l ∧ Below w.heap.size w w'

theorem rd_arc1M {w : World} {b x1 x2 : Nat} {t : TypeId} (h : w.heap[b]? = some (.cells #[.int .u32 (x1 : Nat), .int .u32 (x2 : Nat)] t (0, 0))) (hx : okA (x1, x2)) : RdS arcRep (fun k => k = b) w (some ⟨b, 0, none⟩) [(x1, x2)] := by
  refine .inr ⟨b, 0, rfl, rfl, (Array.getElem?_eq_some_iff.1 h).1, fun j x hj => ?_⟩
  have hj0 : j = 0 := by have := (List.getElem?_eq_some_iff.1 hj).1; simpa using this
  subst hj0
  simp only [List.getElem?_cons_zero, Option.some.injEq] at hj
  subst hj
  refine ⟨arcCs (x1, x2), arcRep_ok hx, fun i hi => ?_⟩
  have hi2 : i = 0 ∨ i = 1 := by have : i < 2 := hi; omega
  rw [Nat.zero_add, Nat.zero_mul, Nat.zero_add, cell_of_row w b i _ _ _ h]
  rcases hi2 with rfl | rfl <;> rfl
theorem with_new {l : List RowD} {x : EdgeD} {fp : Nat → Prop} {w w5 : World} {css : List (List Value)} {ao : Option Addr} {cap ab : Nat} {g : Option Nat} {t : TypeId} (hall : All2 (fun x cs => rowRep.ok w fp x cs) l css) (hfp : ∀ b, fp b → b < w.heap.size) (hB : Below w.heap.size w w5)
    (ho : Own w5 ao cap g t 2 (l.length + 1) (css.flatten ++ [.int .u32 (x.1 : Nat), .slice (some ⟨ab, 0, none⟩) 1 1])) {ta : TypeId} (hb : w5.heap[ab]? = some (.cells #[.int .u32 (x.2.1 : Nat), .int .u32 (x.2.2 : Nat)] ta (0, 0))) (hx : okE x) (hg : ∀ b, g = some b → w.heap.size ≤ b) (hab : w.heap.size ≤ ab) :
    RdS rowRep (fun k => fp k ∨ w.heap.size ≤ k) w5 ao (l ++ [(x.1, [(x.2.1, x.2.2)])]) := by
  have h1 := all2_mono (fp' := fun k => fp k ∨ w.heap.size ≤ k) hall (fun b hb _ => hB.block b (hfp b hb)) hB.size (fun _ h => .inl h)
  have h2 : rowRep.ok w5 (fun k => fp k ∨ w.heap.size ≤ k) (x.1, [(x.2.1, x.2.2)]) [.int .u32 (x.1 : Nat), .slice (some ⟨ab, 0, none⟩) 1 1] :=
    rowRep_ok (p := (x.1, [(x.2.1, x.2.2)])) (by simp) (by simp [maxLen]) hx.1 ((rd_arc1M hb ⟨hx.2.1, hx.2.2⟩).mono (fun b h _ => by subst h; exact .inr hab))
  have hO : OwnS rowRep (fun k => fp k ∨ w.heap.size ≤ k) w5 ao cap g t (l ++ [(x.1, [(x.2.1, x.2.2)])]) := ⟨css ++ [_], by simpa using (show Own w5 ao cap g t rowRep.size (l.length + 1) (css.flatten ++ [.int .u32 (x.1 : Nat), .slice (some ⟨ab, 0, none⟩) 1 1]) from ho), all2_append h1 (.cons h2 .nil)⟩
  exact hO.rd.mono (fun b h _ => h.elim id (fun h => .inr (hg b h)))

theorem arc_fp {w w' : World} {fp fp' : Nat → Prop} {x : ArcD} {cs : List Value} (h : arcRep.ok w fp x cs) : arcRep.ok w' fp' x cs := h
theorem with_last {A : List RowD} {arcs : List ArcD} {fp : Nat → Prop} {w w5 : World} {css : List (List Value)} {ao ra : Option Addr} {cap rc fr : Nat} {g : Option Nat} {t : TypeId} (hall : All2 (fun x cs => rowRep.ok w fp x cs) A css) (hfp : ∀ b, fp b → b < w.heap.size) (hB : Below w.heap.size w w5)
    (ho : Own w5 ao cap g t 2 (A.length + 1) (css.flatten ++ [.int .u32 (fr : Nat), .slice ra arcs.length rc])) (hra : RdS arcRep (fun k => w.heap.size ≤ k) w5 ra arcs) (h1 : arcs.length ≤ rc) (h2 : rc ≤ maxLen) (hfr : fr < 4294967296) (hg : ∀ b, g = some b → w.heap.size ≤ b) :
    RdS rowRep (fun k => fp k ∨ w.heap.size ≤ k) w5 ao (A ++ [(fr, arcs)]) := by
  have h3 := all2_mono (fp' := fun k => fp k ∨ w.heap.size ≤ k) hall (fun b hb _ => hB.block b (hfp b hb)) hB.size (fun _ h => .inl h)
  have hO : OwnS rowRep (fun k => fp k ∨ w.heap.size ≤ k) w5 ao cap g t (A ++ [(fr, arcs)]) := ⟨css ++ [_], by simpa using (show Own w5 ao cap g t rowRep.size (A.length + 1) (css.flatten ++ [.int .u32 (fr : Nat), .slice ra arcs.length rc]) from ho), all2_append h3 (.cons (rowRep_ok (p := (fr, arcs)) h1 h2 hfr (hra.mono (fun b h _ => .inr h))) .nil)⟩
  exact hO.rd.mono (fun b h _ => h.elim id (fun h => .inr (hg b h)))

set_option maxRecDepth 100000 in
set_option maxHeartbeats 3200000 in
theorem with_any (l : List RowD) (x : EdgeD) (ao : Option Addr) (cap : Nat) (w : World) (hl : l.length ≤ 100000) (hx : okE x) (fp : Nat → Prop) (hfp : ∀ b, fp b → b < w.heap.size) (hrd : RdS rowRep fp w ao l) (hcap : l.length ≤ cap) (hne : ∀ A r, l = A ++ [r] → 0 < r.2.length ∧ r.2.length ≤ 1000000 ∧ (r.1 = x.1 → sumA r.2 + x.2.2 ≤ 2147483647)) :
    Calls Try.prog 89 #[.slice ao l.length cap, edgeV x] w (RowsOne (withR l x) fp w) := by
  have Hfp := Lib.hid hfp
  clear hfp
  have hE := rowElem
  have hEa := arcElem
  obtain ⟨x0, x1, x2⟩ := x
  simp only [edgeV]
  by_cases h0 : l.length = 0
  · obtain rfl := List.eq_nil_of_length_eq_zero h0
    have hd : (((0 : Nat) : Int) == 0) = true := rfl
    obtain ⟨css, hall, hsrc⟩ := hrd.srcAll oneRow (P := Try.prog) (tx := 47) Try.underlying47
    have Hsrc := Lib.hid hsrc
    have Hall := Lib.hid hall
    have Hx := Lib.hid hx
    have HWr := Lib.hid (show withR [] (x0, x1, x2) = [] ++ [(x0, [(x1, x2)])] from rfl)
    clear hall hsrc hrd hne hx
    go_enter Try.func89, Try.ntmps89
    go_wp2_with fail
    go_quiet (fail)
    go_wp2_with fail
    obtain ⟨w2, hw2⟩ : ∃ w2, ((w.alloc (Obj.cells #[Value.int IntKind.u32 (x0 : Nat), Value.int IntKind.u32 (x1 : Nat), Value.int IntKind.u32 (x2 : Nat)] 56)).alloc (Obj.cells #[Value.int IntKind.u32 (x1 : Nat), Value.int IntKind.u32 (x2 : Nat)] 42)).drewN nq = w2 := ⟨_, rfl⟩
    have hB2 : Below w.heap.size w w2 := by rw [← hw2]; exact below_drewN ((ext_alloc w _).alloc (by simp) _) _
    have hs2 : w.heap.size + 2 ≤ w2.heap.size := by rw [← hw2]; simp
    have e0 : w2.cell? ⟨w.heap.size, 0, none⟩ = some (.int .u32 (x0 : Nat)) := by rw [← hw2]; simp [go_sem, ↓IntWalk.iteOmega]
    have a0 : w2.cell? ⟨w.heap.size + 1, 0, none⟩ = some (.int .u32 (x1 : Nat)) := by rw [← hw2]; simp [go_sem, ↓IntWalk.iteOmega]
    have a1 : w2.cell? ⟨w.heap.size + 1, 1, none⟩ = some (.int .u32 (x2 : Nat)) := by rw [← hw2]; simp [go_sem, ↓IntWalk.iteOmega]
    rw [hw2]
    have HB2 := Lib.hid hB2
    clear hw2 hB2
    go_region_held3 (fun w' => w'.cell? ⟨w.heap.size, 0, none⟩ = some (.int .u32 (x0 : Nat)) ∧ w'.cell? ⟨w.heap.size + 1, 0, none⟩ = some (.int .u32 (x1 : Nat)) ∧ w'.cell? ⟨w.heap.size + 1, 1, none⟩ = some (.int .u32 (x2 : Nat))) (first | exact ⟨e0, a0, a1⟩ | exact ⟨e4, b4, c4⟩ | exact ⟨e5, b5, c5⟩ | (refine ⟨?_, ?_, ?_⟩ <;> simp [go_sem, ↓IntWalk.iteOmega, e0, a0, a1]; done) | (refine ⟨?_, ?_, ?_⟩ <;> simp [go_sem, ↓IntWalk.iteOmega, e4, b4, c4]; done) | go_keep)
      (first
        | (refine step_app rfl (.tmp 29) (.tmp 30) 47 47 rfl hE (own_empty (by simp only [drew_heap, heap_alloc_ite, World.size_alloc, ↓IntWalk.iteOmega, if_true])) rfl rfl (Hsrc.out _ (HB2.out.trans ((by repeat (first | exact Below.refl _ _ | refine Below.drew ?_ | refine Below.alloc ?_ (by first | omega | (simp; try omega)) _) : Below w2.heap.size w2 _).mono (by omega))) _) (by first | (simp only [maxLen]; omega) | (simp [maxLen]; done)) (by first | omega | (simp; done)) ?_; intro ao4 cap4 g4 w4 ho4 hg4 hon4; rw [Nat.zero_add, List.nil_append] at ho4; have hB4 : Below w2.heap.size w2 w4 := Below.trans (by repeat (first | exact Below.refl _ _ | refine Below.drew ?_ | refine Below.alloc ?_ (by first | omega | (simp; try omega)) _)) (hon4.below (by simp; try omega) (fun k hk e => by cases e; omega)); have e4 := ((bcell hB4).1 w.heap.size 0 (by omega)).trans e0; have b4 := ((bcell hB4).1 (w.heap.size + 1) 0 (by omega)).trans a0; have c4 := ((bcell hB4).1 (w.heap.size + 1) 1 (by omega)).trans a1; have Ho4 := Lib.hid ho4; have Hg4 := Lib.hid hg4; have Hon4 := Lib.hid hon4; have hg4n : ∀ k, g4 = some k → w2.heap.size ≤ k := (fun k h => by rcases hg4 with e | e <;> rw [e] at h <;> cases h <;> first | omega | (simp; done) | (simp; omega)); have Hg4n := Lib.hid hg4n; clear hg4n; have hs4 := hon4.size; simp at hs4; have HB4 := Lib.hid hB4; clear ho4 hg4 hon4 hB4)
        | ((first | (refine step_app (g := g4) (xs := css.flatten) (m := 1) (news := [.int .u32 (x0 : Nat), .slice (some ⟨w4.heap.size, 0, none⟩) 1 1]) rfl (.tmp 31) (.tmp 37) 47 47 rfl hE ?_ rfl rfl ?_ ?_ ?_ ?_; (try rw [Nat.zero_add]); (first | exact (Ho4.out.alloc _).alloc _ | exact Ho4.out.alloc _ | exact Ho4.out); (refine srcManyE Try.underlying47 _ [_, _] _ _ 2 _ ?_ rfl ?_; (first | rfl | omega | (focus (simp; done))); (focus (simp [Value.oneCell']; done))); (first | (simp only [maxLen]; omega) | (focus (simp [maxLen]; done))); (first | omega | (focus (simp; done)))) | (refine step_app (g := g4) (xs := css.flatten) (m := 1) (news := [.int .u32 (x0 : Nat), .slice (some ⟨w2.heap.size + 1, 0, none⟩) 1 1]) rfl (.tmp 31) (.tmp 37) 47 47 rfl hE ?_ rfl rfl ?_ ?_ ?_ ?_; (try rw [Nat.zero_add]); (first | exact (Ho4.out.alloc _).alloc _ | exact Ho4.out.alloc _ | exact Ho4.out); (refine srcManyE Try.underlying47 _ [_, _] _ _ 2 _ ?_ rfl ?_; (first | rfl | omega | (focus (simp; done))); (focus (simp [Value.oneCell']; done))); (first | (simp only [maxLen]; omega) | (focus (simp [maxLen]; done))); (first | omega | (focus (simp; done)))) | (refine step_app (g := g4) (xs := css.flatten) (m := 1) (news := [.int .u32 (x0 : Nat), .slice (some ⟨w2.heap.size, 0, none⟩) 1 1]) rfl (.tmp 31) (.tmp 37) 47 47 rfl hE ?_ rfl rfl ?_ ?_ ?_ ?_; (try rw [Nat.zero_add]); (first | exact (Ho4.out.alloc _).alloc _ | exact Ho4.out.alloc _ | exact Ho4.out); (refine srcManyE Try.underlying47 _ [_, _] _ _ 2 _ ?_ rfl ?_; (first | rfl | omega | (focus (simp; done))); (focus (simp [Value.oneCell']; done))); (first | (simp only [maxLen]; omega) | (focus (simp [maxLen]; done))); (first | omega | (focus (simp; done)))) | (refine step_app (g := g4) (xs := css.flatten) (m := 1) (news := [.int .u32 (x0 : Nat), .slice (some ⟨w2.heap.size + 1, 0, none⟩) 1 1]) rfl (.tmp 31) (.tmp 37) 47 47 rfl hE ?_ rfl rfl ?_ ?_ ?_ ?_; (try rw [Nat.zero_add]); (first | exact (Ho4.out.alloc _).alloc _ | exact Ho4.out.alloc _ | exact Ho4.out); (refine srcBlk (t := 80) Try.underlying47 [_, _] 2 ?_ rfl ?_; (refine (Hon4.out.same _ ?_ ?_).trans ?_; (first | omega | (focus (simp; done)) | (simp; omega)); (first | (focus (simp; done)) | (simp; omega)); (focus (simp only [drew_heap, heap_alloc_ite, World.size_alloc, ↓IntWalk.iteOmega, if_true]; done))); (focus (simp [Value.oneCell']; done))); (first | (simp only [maxLen]; omega) | (focus (simp [maxLen]; done))); (first | omega | (focus (simp; done)))) | (refine step_app (g := g4) (xs := css.flatten) (m := 1) (news := [.int .u32 (x0 : Nat), .slice (some ⟨w2.heap.size, 0, none⟩) 1 1]) rfl (.tmp 31) (.tmp 37) 47 47 rfl hE ?_ rfl rfl ?_ ?_ ?_ ?_; (try rw [Nat.zero_add]); (first | exact (Ho4.out.alloc _).alloc _ | exact Ho4.out.alloc _ | exact Ho4.out); (refine srcBlk (t := 80) Try.underlying47 [_, _] 2 ?_ rfl ?_; (refine (Hon4.out.same _ ?_ ?_).trans ?_; (first | omega | (focus (simp; done)) | (simp; omega)); (first | (focus (simp; done)) | (simp; omega)); (focus (simp only [drew_heap, heap_alloc_ite, World.size_alloc, ↓IntWalk.iteOmega, if_true]; done))); (focus (simp [Value.oneCell']; done))); (first | (simp only [maxLen]; omega) | (focus (simp [maxLen]; done))); (first | omega | (focus (simp; done))))); intro ao5 cap5 g5 w5 ho5 hg5 hon5; have hB5 : Below w2.heap.size w2 w5 := HB4.out.trans ((by repeat (first | exact Below.refl _ _ | refine Below.drew ?_ | refine Below.alloc ?_ (by first | omega | (simp; try omega)) _) : Below w2.heap.size w4 _).trans (hon5.below (by first | omega | (simp; try omega)) (fun k hk e => by have := Hg4n.out k e; omega))); have e5 := ((bcell hB5).1 w.heap.size 0 (by omega)).trans e0; have b5 := ((bcell hB5).1 (w.heap.size + 1) 0 (by omega)).trans a0; have c5 := ((bcell hB5).1 (w.heap.size + 1) 1 (by omega)).trans a1; have hg5n : ∀ k, g5 = some k → w2.heap.size ≤ k := (fun k h => by rcases hg5 with e | e <;> rw [e] at h <;> first | exact Hg4n.out k h | (have h := Option.some.inj h; first | omega | (simp at h; omega))); have Hg5n := Lib.hid hg5n; have Ho5 := Lib.hid ho5; have Hon5 := Lib.hid hon5; have HB5 := Lib.hid hB5; clear ho5 hg5 hon5 hB5 hg5n)
        | fail "no arm")
    all_goals
      go_wp2_with fail
      go_ret
      have hB := HB2.out.trans (HB5.out.mono (by omega))
      have ho5 := Ho5.out
      try rw [Nat.zero_add] at ho5
      try rw [← Hlen.out] at ho5
      refine ⟨ao5, cap5, by rw [HWr.out]; first | (simp; done) | (have hl2 := Hlen.out; simp at hl2; simp [hl2]; done), by rw [HWr.out]; have := ho5.capLe.1; simpa using this, ho5.capLe.2, by rw [HWr.out]; exact with_new (x := (x0, x1, x2)) (ta := 42) Hall.out Hfp.out hB ho5 (by
        refine (Hon5.out.same _ ?_ ?_).trans ?_
        · first | omega | (simp; done) | (simp; omega) | skip
        · exact fun e => by first | (have := Ho4.out.lt _ e; omega) | (rcases Hg4.out with h | h <;> rw [h] at e <;> simp at e <;> omega)
        · first
            | (simp only [drew_heap, heap_alloc_ite, World.size_alloc, ↓IntWalk.iteOmega, if_true]; done)
            | (simp only [drew_heap, heap_alloc_ite, World.size_alloc, ↓IntWalk.iteOmega, if_true, if_false]; refine (Hon4.out.same _ ?_ ?_).trans ?_ <;> first | omega | (simp; done) | (simp; omega) | (simp only [drew_heap, heap_alloc_ite, World.size_alloc, ↓IntWalk.iteOmega, if_true]; done))
            | (refine (Hon4.out.same _ ?_ ?_).trans ?_ <;> first | omega | (simp; done) | (simp; omega) | (simp only [drew_heap, heap_alloc_ite, World.size_alloc, ↓IntWalk.iteOmega, if_true]; done))) Hx.out (fun b h => by have := Hg5n.out b h; omega) (by omega), hB⟩
  · obtain ⟨A, ⟨fr, arcs⟩, rfl⟩ : ∃ A r, l = A ++ [r] := by
      rcases List.eq_nil_or_concat l with h | ⟨A, r, h⟩
      · subst h; exact absurd rfl h0
      · exact ⟨A, r, by rw [h, List.concat_eq_append]⟩
    obtain ⟨b, off, ra, rc, rfl, hb, hc0, hc1, hfr, hrc, hrm, hra⟩ := hrd.row A.length (by simp)
    simp only [List.getElem_concat_length] at hc0 hc1 hfr hrc hra
    obtain ⟨ha0, ha1, hs1⟩ := hne A (fr, arcs) rfl
    simp only at ha0 ha1 hs1
    obtain ⟨css, hall, hsrc⟩ := hrd.srcAll oneRow (P := Try.prog) (tx := 47) Try.underlying47
    have hrdA := hrd.take A.length
    rw [List.take_left] at hrdA
    obtain ⟨cssA, hallA, hsrcA⟩ := hrdA.srcAll oneRow (P := Try.prog) (tx := 47) Try.underlying47
    have hlen : (A ++ [(fr, arcs)]).length = A.length + 1 := by simp
    rw [hlen] at hsrc hl hcap ⊢
    have hd : (((A.length : Nat) : Int) + 1 == 0) = false := by simp; omega
    have Hx := Lib.hid hx
    by_cases hf : fr = x0
    · subst hf
      have hq : ((fr : Int) != (fr : Int)) = false := by simp
      obtain ⟨B, ⟨t, y⟩, rfl⟩ : ∃ B r, arcs = B ++ [r] := by
        rcases List.eq_nil_or_concat arcs with h | ⟨A, r, h⟩
        · subst h; exact absurd ha0 (by simp)
        · exact ⟨A, r, by rw [h, List.concat_eq_append]⟩
      obtain ⟨cssB, hallB, hsrcB⟩ := hra.srcAll oneArc (P := Try.prog) (tx := 31) Try.underlying31
      have hlB : (B ++ [(t, y)]).length = B.length + 1 := by simp
      rw [hlB] at hsrcB hc1 hrc ha1
      have hs1 := hs1 rfl
      rw [sumA_append, sumA_one] at hs1
      simp only at hs1
      have hWr : withR (A ++ [(fr, B ++ [(t, y)])]) (fr, x1, x2) = A ++ [(fr, if t = x1 then B ++ [(t, y + x2)] else B ++ [(t, y)] ++ [(x1, x2)])] := by
        unfold withR
        rw [List.getLast?_concat]
        simp only [if_true, List.dropLast_concat]
        rw [addArc_snoc]
      have HWr := Lib.hid hWr
      have HsrcA := Lib.hid hsrcA
      have HsrcB := Lib.hid hsrcB
      have HallA := Lib.hid hallA
      have HallB := Lib.hid hallB
      have HAl : Hid (A.length = A.length) := Lib.hid rfl
      have HBl : Hid (B.length = B.length) := Lib.hid rfl
      have hn1 : A.length ≤ 100000 := by omega
      have hk1 : B.length ≤ 1000000 := by omega
      generalize hAn : A.length = n at hsrcA hc0 hc1 hcap hd hn1 hl HsrcA HAl ⊢
      generalize hBk : B.length = k at hsrcB hc1 hrc ha1 hk1 HsrcB HBl ⊢
      have HAn := Lib.hid hAn
      have HBk := Lib.hid hBk
      clear hall hsrc hrd hne hx hallA hsrcA hrdA hra ha0 hlen h0 hWr hallB hsrcB hAn hBk hlB
      go_enter Try.func89, Try.ntmps89
      go_wp2_with fail
      go_quiet (fail)
      go_wp2_with (at_builtin; refine wpList_app rfl (.tmp 45) (.tmp 47) 31 31 rfl hEa (Own.emptyAt _ 42 2 _ (by simp)) rfl rfl (HsrcB.out _ (((below_drewN ((ext_alloc w _).alloc (by simp) _) _).alloc (by simp; omega) _).alloc (by simp; omega) _) _) (by simp [maxLen]; omega) (by omega) ?_; intro ao3 cap3 g3 w3 ho3 hg3 hon3)
      have hB3 : Below (w.heap.size + 3) ((((w.alloc (Obj.cells #[Value.int IntKind.u32 (fr : Nat), Value.int IntKind.u32 (x1 : Nat), Value.int IntKind.u32 (x2 : Nat)] 56)).alloc (Obj.cells #[Value.int IntKind.u32 (x1 : Nat), Value.int IntKind.u32 (x2 : Nat)] 42)).drewN nq).alloc (Obj.cells #[Value.int IntKind.u32 (fr : Nat), Value.slice ra (k + 1) rc] 80)) w3 :=
        (ext_alloc _ _).mono (by simp) |>.trans (hon3.below (by simp) (fun j hj e => by cases e; simp at hj))
      have hBw : Below w.heap.size w w3 := (((below_drewN ((ext_alloc w _).alloc (by simp) _) _).alloc (by simp; omega) _)).trans (hB3.mono (by omega))
      have e0 := ((bcell hB3).1 w.heap.size 0 (by omega)).trans (show _ = some (Value.int .u32 (fr : Nat)) by simp [go_sem, ↓IntWalk.iteOmega])
      have e1 := ((bcell hB3).1 w.heap.size 1 (by omega)).trans (show _ = some (Value.int .u32 (x1 : Nat)) by simp [go_sem, ↓IntWalk.iteOmega])
      have e2 := ((bcell hB3).1 w.heap.size 2 (by omega)).trans (show _ = some (Value.int .u32 (x2 : Nat)) by simp [go_sem, ↓IntWalk.iteOmega])
      have a0 := ((bcell hB3).1 (w.heap.size + 1) 0 (by omega)).trans (show _ = some (Value.int .u32 (x1 : Nat)) by simp [go_sem, ↓IntWalk.iteOmega])
      have a1 := ((bcell hB3).1 (w.heap.size + 1) 1 (by omega)).trans (show _ = some (Value.int .u32 (x2 : Nat)) by simp [go_sem, ↓IntWalk.iteOmega])
      have hs3 := hB3.size
      simp at hs3
      rw [Nat.zero_add, List.nil_append] at ho3
      obtain ⟨bb, rfl, rfl, hbb⟩ := ho3.pos (by omega)
      have hO : OwnS arcRep (fun _ => False) w3 (some ⟨bb, 0, none⟩) cap3 (some bb) 42 (B ++ [(t, y)]) := ⟨cssB, by have e : (B ++ [(t, y)]).length = k + 1 := (by simp [HBk.out]); rw [e]; exact ho3, forall2_imp (fun _ _ h => arc_fp h) HallB.out⟩
      have hbn : w.heap.size + 3 ≤ bb := by
        rcases hg3 with h | h
        · simp at h; omega
        · simp at h; omega
      obtain ⟨m, z, hm, _, ⟨z1, z2, rfl, ⟨rfl, ht⟩, ⟨rfl, hy⟩⟩⟩ := all2_snoc HallB.out
      have hml : m.flatten.length = k * 2 := by
        have h1 := ho3.1
        rw [hm] at h1
        simp at h1
        simpa using (show m.flatten.length = k * 2 by simp; omega)
      have c0 : w3.cell? ⟨bb, k * 2, none⟩ = some (.int .u32 (t : Nat)) := by
        rw [ho3.cell (k * 2) (by omega), hm, List.flatten_append, List.getElem?_append_right (by omega), hml, Nat.sub_self]; rfl
      have c1 : w3.cell? ⟨bb, k * 2 + 1, none⟩ = some (.int .u32 (y : Nat)) := by
        rw [ho3.cell (k * 2 + 1) (by omega), hm, List.flatten_append, List.getElem?_append_right (by omega), hml, Nat.add_sub_cancel_left]; rfl
      have f1 : w3.frozen? ⟨bb, k * 2 + 1, none⟩ = false := ho3.frozen _
      have HO := Lib.hid hO
      have HBw := Lib.hid hBw
      have HO3 := Lib.hid ho3
      have hk2 : (0 : Int) ≤ (k : Int) := by omega
      clear hB3 ho3 hg3 hon3 hO hBw hm hml hc0 hc1 hs3
      by_cases htx : t = x1
      · have hq2 : ((t : Int) == (x1 : Int)) = true := by simp [htx]
        rw [if_pos htx] at HWr
        clear htx
        go_wp2_with fail
        go_quiet (fail)
        go_wp2_with fail
        have hib : (k : Int) < ((k + 1 : Nat) : Int) := by omega
        have hib2 : (k : Int) < (k : Int) + 1 := by omega
        have hkw : IntKind.i64.wrap (k : Int) = (k : Int) := IntWalk.i64_in _ (by omega)
        refine wp_region_still_tail 16 (by kernel_rfl) (by kernel_rfl) ?_
        change wpStill _ _ (World.drew _) _ _ _
        simp only [List.take_succ_cons, List.take_zero, List.drop_succ_cons, List.drop_zero]
        repeat still_step
        refine wpStill_nil ?_
        clear hkw
        have hB7 : Below w.heap.size w ((w3.drewN (nq + 1)).setCell ⟨bb, k * 2 + 1, none⟩ (.int .u32 ((y : Int) + (x2 : Int)))) := (HBw.out.trans ((ext_drewN w3 (nq + 1)).mono HBw.out.size)).setCell (by simp; omega) _
        have e7 : ((w3.drewN (nq + 1)).setCell ⟨bb, k * 2 + 1, none⟩ (.int .u32 ((y : Int) + (x2 : Int)))).cell? ⟨w.heap.size, 0, none⟩ = some (.int .u32 (fr : Nat)) := by
          have hne : ¬ w.heap.size = bb := by omega
          simp [go_sem, cell_set_ite, hne, e0]
        have hO7 : OwnS arcRep (fun _ => False) ((w3.drewN (nq + 1)).setCell ⟨bb, k * 2 + 1, none⟩ (.int .u32 ((y : Int) + (x2 : Int)))) (some ⟨bb, 0, none⟩) cap3 (some bb) 42 (B ++ [(t, y + x2)]) := by
          have h := (HO.out.ext (ext_drewN w3 (nq + 1))).arcAdd (z := y + x2) (by omega)
          rw [HBk.out, Int.natCast_add] at h
          exact h
        have hs7 : w.heap.size + 3 ≤ ((w3.drewN (nq + 1)).setCell ⟨bb, k * 2 + 1, none⟩ (.int .u32 ((y : Int) + (x2 : Int)))).heap.size := by simp; omega
        have HB7 := Lib.hid hB7
        have HWs : Hid (w.heap.size ≤ ((w3.drewN (nq + 1)).setCell ⟨bb, k * 2 + 1, none⟩ (.int .u32 ((y : Int) + (x2 : Int)))).heap.size) := Lib.hid hB7.size
        have HO7 := Lib.hid hO7
        have hL : (B ++ [(t, y + x2)]).length = k + 1 := by simp [HBk.out]
        have HL := Lib.hid hL
        clear hB7 hO7 hL
        change wpList _ _ _ _ _ (World.drew _)
        go_wp2_with (first
          | (at_builtin; refine wpList_app rfl (.tmp 79) (.tmp 84) 47 47 rfl hE (Own.emptyAt _ 80 2 _ (by simp)) rfl rfl (HsrcA.out _ (HB7.out.alloc (HB7.out).size _) _) (by simp [maxLen]; omega) (by omega) ?_; intro ao8 cap8 g8 w8 ho8 hg8 hon8; rw [Nat.zero_add, List.nil_append] at ho8; have hB8 := (ext_alloc ((w3.drewN (nq + 1)).setCell ⟨bb, k * 2 + 1, none⟩ (.int .u32 ((y : Int) + (x2 : Int)))) _).trans (hon8.below (by simp) (fun j hj e => by have := Option.some.inj e; first | omega | (simp at hj this; omega) | (simp at hj; omega) | (simp at this; omega))); have e8 := ((bcell hB8).1 w.heap.size 0 (by omega)).trans e7; have hs8 := hB8.size; have Ho8 := Lib.hid ho8; have HB8 := Lib.hid hB8; have hg8n : ∀ j, g8 = some j → ((w3.drewN (nq + 1)).setCell ⟨bb, k * 2 + 1, none⟩ (.int .u32 ((y : Int) + (x2 : Int)))).heap.size ≤ j := (fun j h => by rcases hg8 with e | e <;> rw [e] at h <;> have h := Option.some.inj h <;> first | omega | (simp at h ⊢; omega) | (simp; omega)); have Hg8n := Lib.hid hg8n; clear ho8 hB8 hg8 hon8 hg8n)
          | (at_builtin; refine wpList_app rfl (.tmp 86) (.tmp 91) 47 47 rfl hE (Ho8.out.alloc _) rfl rfl (srcManyE Try.underlying47 _ [_, _] _ _ 2 _ (by simp) rfl (by simp [Value.oneCell'])) (by simp [maxLen]; omega) (by omega) ?_; intro ao9 cap9 g9 w9 ho9 hg9 hon9; have hg9n : ∀ j, g9 = some j → w.heap.size ≤ j := (fun j h => by rcases hg9 with e | e <;> rw [e] at h <;> first | exact Nat.le_trans HWs.out (Hg8n.out j h) | (have h := Option.some.inj h; first | omega | (simp at h; omega) | (have := HWs.out; simp at this h hs8; omega))); have Hg9n := Lib.hid hg9n; have Ho9 := Lib.hid ho9; have Hon9 := Lib.hid hon9; clear ho9 hg9 hon9 hg9n))
        go_ret
        have hL := HL.out
        refine ⟨ao9, cap9, by rw [HWr.out]; simp [HAn.out], by rw [HWr.out]; have := Ho9.out.capLe.1; simpa [HAn.out] using this, Ho9.out.capLe.2, ?_, ?_⟩
        · rw [HWr.out]
          have ho9 := Ho9.out
          have hB89 : Below ((w3.drewN (nq + 1)).setCell ⟨bb, k * 2 + 1, none⟩ (.int .u32 ((y : Int) + (x2 : Int)))).heap.size ((w3.drewN (nq + 1)).setCell ⟨bb, k * 2 + 1, none⟩ (.int .u32 ((y : Int) + (x2 : Int)))) w9 := HB8.out.trans ((ext_alloc w8 _).mono hs8 |>.trans (Hon9.out.below (by first | omega | (simp; omega) | (simp at hs8 ⊢; omega)) (fun j hj e => by have := Hg8n.out j e; omega)))
          refine with_last HallA.out Hfp.out (HB7.out.trans (hB89.mono (HB7.out).size)) (by rw [HAn.out]; have h := ho9; rw [← hL] at h; exact h) ((HO7.out.rd.mono (fun b h _ => h.elim (fun h => h.elim) (fun h => by cases h; omega))).keep (fun b _ hl => hB89.block b hl) hB89.size) (HO7.out.capLe).1 (HO7.out.capLe).2 hfr (fun b h => by have := Hg9n.out b h; have := (HB7.out).size; omega)
        · exact HB7.out.trans ((HB8.out.trans ((ext_alloc w8 _).mono hs8 |>.trans (Hon9.out.below (by first | omega | (simp; omega) | (simp at hs8 ⊢; omega)) (fun j hj e => by have := Hg8n.out j e; omega)))).mono (HB7.out).size)
      · have hq2 : ((t : Int) == (x1 : Int)) = false := by simp; omega
        rw [if_neg htx] at HWr
        clear htx
        go_wp2_with fail
        go_quiet (fail)
        go_wp2_with (first
          | (at_builtin; refine wpList_app rfl (.tmp 75) (.tmp 77) 31 31 rfl hEa ((HO3.out.ext (ext_drewN _ _)).alloc _) rfl rfl (srcManyE Try.underlying31 _ [_, _] _ _ 2 _ (by simp) rfl (by simp [Value.oneCell'])) (by simp [maxLen]; omega) (by omega) ?_; intro ao4 cap4 g4 w4 ho4 hg4 hon4; have hB4 : Below (w.heap.size + 3) w3 w4 := (((ext_drewN w3 _).alloc (by simp) _).mono (by omega)).trans (hon4.below (by simp; omega) (fun j hj e => by have := Option.some.inj e; omega)); have e4 := ((bcell hB4).1 w.heap.size 0 (by omega)).trans e0; have hB4w := HBw.out.trans (hB4.mono (by omega)); have HWs := Lib.hid hB4w.size; have hg4n : ∀ j, g4 = some j → w.heap.size ≤ j := (fun j h => by rcases hg4 with e | e <;> rw [e] at h <;> have h := Option.some.inj h <;> first | omega | (simp at h; omega)); have Hg4n := Lib.hid hg4n; clear hg4n; have Ho4 := Lib.hid ho4; have HB4 := Lib.hid hB4w; have hs4 := hB4.size; clear ho4 hg4 hon4 hB4 hB4w c0 c1 f1 e0 e1 e2 a0 a1)
          | (at_builtin; refine wpList_app rfl (.tmp 79) (.tmp 84) 47 47 rfl hE (Own.emptyAt _ 80 2 _ (by simp)) rfl rfl (HsrcA.out _ (HB4.out.alloc (HB4.out).size _) _) (by simp [maxLen]; omega) (by omega) ?_; intro ao8 cap8 g8 w8 ho8 hg8 hon8; rw [Nat.zero_add, List.nil_append] at ho8; have hB8 := (ext_alloc w4 _).trans (hon8.below (by simp) (fun j hj e => by have := Option.some.inj e; first | omega | (simp at hj this; omega) | (simp at hj; omega) | (simp at this; omega))); have e8 := ((bcell hB8).1 w.heap.size 0 (by omega)).trans e4; have hs8 := hB8.size; have Ho8 := Lib.hid ho8; have HB8 := Lib.hid hB8; have hg8n : ∀ j, g8 = some j → w4.heap.size ≤ j := (fun j h => by rcases hg8 with e | e <;> rw [e] at h <;> have h := Option.some.inj h <;> first | omega | (simp at h ⊢; omega) | (simp; omega)); have Hg8n := Lib.hid hg8n; clear ho8 hB8 hg8 hon8 hg8n)
          | (at_builtin; refine wpList_app rfl (.tmp 86) (.tmp 91) 47 47 rfl hE (Ho8.out.alloc _) rfl rfl (srcManyE Try.underlying47 _ [_, _] _ _ 2 _ (by simp) rfl (by simp [Value.oneCell'])) (by simp [maxLen]; omega) (by omega) ?_; intro ao9 cap9 g9 w9 ho9 hg9 hon9; have hg9n : ∀ j, g9 = some j → w.heap.size ≤ j := (fun j h => by rcases hg9 with e | e <;> rw [e] at h <;> first | exact Nat.le_trans HWs.out (Hg8n.out j h) | (have h := Option.some.inj h; first | omega | (simp at h; omega) | (have := HWs.out; simp at this h hs8; omega))); have Hg9n := Lib.hid hg9n; have Ho9 := Lib.hid ho9; have Hon9 := Lib.hid hon9; clear ho9 hg9 hon9 hg9n))
        go_ret
        have hL : (B ++ [(t, y)] ++ [(x1, x2)]).length = k + 1 + 1 := by simp [HBk.out]
        have hO4 : OwnS arcRep (fun _ => False) w4 ao4 cap4 g4 42 (B ++ [(t, y)] ++ [(x1, x2)]) := ⟨cssB ++ [arcCs (x1, x2)], by rw [hL]; simpa using (show Own w4 ao4 cap4 g4 42 arcRep.size (k + 1 + 1) (cssB.flatten ++ arcCs (x1, x2)) from Ho4.out), all2_append (forall2_imp (fun _ _ h => arc_fp h) HallB.out) (.cons (arcRep_ok ⟨Hx.out.2.1, Hx.out.2.2⟩) .nil)⟩
        refine ⟨ao9, cap9, by rw [HWr.out]; simp [HAn.out], by rw [HWr.out]; have := Ho9.out.capLe.1; simpa [HAn.out] using this, Ho9.out.capLe.2, ?_, ?_⟩
        · rw [HWr.out]
          have ho9 := Ho9.out
          have hB89 : Below w4.heap.size w4 w9 := HB8.out.trans ((ext_alloc w8 _).mono hs8 |>.trans (Hon9.out.below (by first | omega | (simp; omega) | (simp at hs8 ⊢; omega)) (fun j hj e => by have := Hg8n.out j e; omega)))
          refine with_last HallA.out Hfp.out (HB4.out.trans (hB89.mono (HB4.out).size)) (by rw [HAn.out]; have h := ho9; rw [← hL] at h; exact h) ((hO4.rd.mono (fun b h _ => h.elim (fun h => h.elim) (fun h => Hg4n.out b h))).keep (fun b _ hl => hB89.block b hl) hB89.size) (hO4.capLe).1 (hO4.capLe).2 hfr (fun b h => by have := Hg9n.out b h; have := (HB4.out).size; omega)
        · exact HB4.out.trans ((HB8.out.trans ((ext_alloc w8 _).mono hs8 |>.trans (Hon9.out.below (by first | omega | (simp; omega) | (simp at hs8 ⊢; omega)) (fun j hj e => by have := Hg8n.out j e; omega)))).mono (HB4.out).size)
    · have hq : ((fr : Int) != (x0 : Int)) = true := by simp; omega
      have HWr := Lib.hid (show withR (A ++ [(fr, arcs)]) (x0, x1, x2) = (A ++ [(fr, arcs)]) ++ [(x0, [(x1, x2)])] by
        unfold withR
        rw [List.getLast?_concat]
        simp only
        rw [if_neg hf])
      have Hlen := Lib.hid hlen
      have Hsrc := Lib.hid hsrc
      have Hall := Lib.hid hall
      generalize A.length = n at *
      clear hall hsrc hrd hne hx hallA hsrcA hrdA hf hra ha0 ha1 hs1 hlen h0
      go_enter Try.func89, Try.ntmps89
      go_wp2_with fail
      go_quiet (fail)
      go_wp2_with fail
      obtain ⟨w2, hw2⟩ : ∃ w2, ((w.alloc (Obj.cells #[Value.int IntKind.u32 (x0 : Nat), Value.int IntKind.u32 (x1 : Nat), Value.int IntKind.u32 (x2 : Nat)] 56)).alloc (Obj.cells #[Value.int IntKind.u32 (x1 : Nat), Value.int IntKind.u32 (x2 : Nat)] 42)).drewN nq = w2 := ⟨_, rfl⟩
      have hB2 : Below w.heap.size w w2 := by rw [← hw2]; exact below_drewN ((ext_alloc w _).alloc (by simp) _) _
      have hs2 : w.heap.size + 2 ≤ w2.heap.size := by rw [← hw2]; simp
      have e0 : w2.cell? ⟨w.heap.size, 0, none⟩ = some (.int .u32 (x0 : Nat)) := by rw [← hw2]; simp [go_sem, ↓IntWalk.iteOmega]
      have a0 : w2.cell? ⟨w.heap.size + 1, 0, none⟩ = some (.int .u32 (x1 : Nat)) := by rw [← hw2]; simp [go_sem, ↓IntWalk.iteOmega]
      have a1 : w2.cell? ⟨w.heap.size + 1, 1, none⟩ = some (.int .u32 (x2 : Nat)) := by rw [← hw2]; simp [go_sem, ↓IntWalk.iteOmega]
      rw [hw2]
      have HB2 := Lib.hid hB2
      clear hw2 hB2
      go_region_held3 (fun w' => w'.cell? ⟨w.heap.size, 0, none⟩ = some (.int .u32 (x0 : Nat)) ∧ w'.cell? ⟨w.heap.size + 1, 0, none⟩ = some (.int .u32 (x1 : Nat)) ∧ w'.cell? ⟨w.heap.size + 1, 1, none⟩ = some (.int .u32 (x2 : Nat))) (first | exact ⟨e0, a0, a1⟩ | exact ⟨e4, b4, c4⟩ | exact ⟨e5, b5, c5⟩ | (refine ⟨?_, ?_, ?_⟩ <;> simp [go_sem, ↓IntWalk.iteOmega, e0, a0, a1]; done) | (refine ⟨?_, ?_, ?_⟩ <;> simp [go_sem, ↓IntWalk.iteOmega, e4, b4, c4]; done) | go_keep)
        (first
          | (refine step_app rfl (.tmp 29) (.tmp 30) 47 47 rfl hE (own_empty (by simp only [drew_heap, heap_alloc_ite, World.size_alloc, ↓IntWalk.iteOmega, if_true])) rfl rfl (Hsrc.out _ (HB2.out.trans ((by repeat (first | exact Below.refl _ _ | refine Below.drew ?_ | refine Below.alloc ?_ (by first | omega | (simp; try omega)) _) : Below w2.heap.size w2 _).mono (by omega))) _) (by first | (simp only [maxLen]; omega) | (simp [maxLen]; done)) (by first | omega | (simp; done)) ?_; intro ao4 cap4 g4 w4 ho4 hg4 hon4; rw [Nat.zero_add, List.nil_append] at ho4; have hB4 : Below w2.heap.size w2 w4 := Below.trans (by repeat (first | exact Below.refl _ _ | refine Below.drew ?_ | refine Below.alloc ?_ (by first | omega | (simp; try omega)) _)) (hon4.below (by simp; try omega) (fun k hk e => by cases e; omega)); have e4 := ((bcell hB4).1 w.heap.size 0 (by omega)).trans e0; have b4 := ((bcell hB4).1 (w.heap.size + 1) 0 (by omega)).trans a0; have c4 := ((bcell hB4).1 (w.heap.size + 1) 1 (by omega)).trans a1; have Ho4 := Lib.hid ho4; have Hg4 := Lib.hid hg4; have Hon4 := Lib.hid hon4; have hg4n : ∀ k, g4 = some k → w2.heap.size ≤ k := (fun k h => by rcases hg4 with e | e <;> rw [e] at h <;> cases h <;> first | omega | (simp; done) | (simp; omega)); have Hg4n := Lib.hid hg4n; clear hg4n; have hs4 := hon4.size; simp at hs4; have HB4 := Lib.hid hB4; clear ho4 hg4 hon4 hB4)
          | ((first | (refine step_app (g := g4) (xs := css.flatten) (m := 1) (news := [.int .u32 (x0 : Nat), .slice (some ⟨w4.heap.size, 0, none⟩) 1 1]) rfl (.tmp 31) (.tmp 37) 47 47 rfl hE ?_ rfl rfl ?_ ?_ ?_ ?_; (try rw [Nat.zero_add]); (first | exact (Ho4.out.alloc _).alloc _ | exact Ho4.out.alloc _ | exact Ho4.out); (refine srcManyE Try.underlying47 _ [_, _] _ _ 2 _ ?_ rfl ?_; (first | rfl | omega | (focus (simp; done))); (focus (simp [Value.oneCell']; done))); (first | (simp only [maxLen]; omega) | (focus (simp [maxLen]; done))); (first | omega | (focus (simp; done)))) | (refine step_app (g := g4) (xs := css.flatten) (m := 1) (news := [.int .u32 (x0 : Nat), .slice (some ⟨w2.heap.size + 1, 0, none⟩) 1 1]) rfl (.tmp 31) (.tmp 37) 47 47 rfl hE ?_ rfl rfl ?_ ?_ ?_ ?_; (try rw [Nat.zero_add]); (first | exact (Ho4.out.alloc _).alloc _ | exact Ho4.out.alloc _ | exact Ho4.out); (refine srcManyE Try.underlying47 _ [_, _] _ _ 2 _ ?_ rfl ?_; (first | rfl | omega | (focus (simp; done))); (focus (simp [Value.oneCell']; done))); (first | (simp only [maxLen]; omega) | (focus (simp [maxLen]; done))); (first | omega | (focus (simp; done)))) | (refine step_app (g := g4) (xs := css.flatten) (m := 1) (news := [.int .u32 (x0 : Nat), .slice (some ⟨w2.heap.size, 0, none⟩) 1 1]) rfl (.tmp 31) (.tmp 37) 47 47 rfl hE ?_ rfl rfl ?_ ?_ ?_ ?_; (try rw [Nat.zero_add]); (first | exact (Ho4.out.alloc _).alloc _ | exact Ho4.out.alloc _ | exact Ho4.out); (refine srcManyE Try.underlying47 _ [_, _] _ _ 2 _ ?_ rfl ?_; (first | rfl | omega | (focus (simp; done))); (focus (simp [Value.oneCell']; done))); (first | (simp only [maxLen]; omega) | (focus (simp [maxLen]; done))); (first | omega | (focus (simp; done)))) | (refine step_app (g := g4) (xs := css.flatten) (m := 1) (news := [.int .u32 (x0 : Nat), .slice (some ⟨w2.heap.size + 1, 0, none⟩) 1 1]) rfl (.tmp 31) (.tmp 37) 47 47 rfl hE ?_ rfl rfl ?_ ?_ ?_ ?_; (try rw [Nat.zero_add]); (first | exact (Ho4.out.alloc _).alloc _ | exact Ho4.out.alloc _ | exact Ho4.out); (refine srcBlk (t := 80) Try.underlying47 [_, _] 2 ?_ rfl ?_; (refine (Hon4.out.same _ ?_ ?_).trans ?_; (first | omega | (focus (simp; done)) | (simp; omega)); (first | (focus (simp; done)) | (simp; omega)); (focus (simp only [drew_heap, heap_alloc_ite, World.size_alloc, ↓IntWalk.iteOmega, if_true]; done))); (focus (simp [Value.oneCell']; done))); (first | (simp only [maxLen]; omega) | (focus (simp [maxLen]; done))); (first | omega | (focus (simp; done)))) | (refine step_app (g := g4) (xs := css.flatten) (m := 1) (news := [.int .u32 (x0 : Nat), .slice (some ⟨w2.heap.size, 0, none⟩) 1 1]) rfl (.tmp 31) (.tmp 37) 47 47 rfl hE ?_ rfl rfl ?_ ?_ ?_ ?_; (try rw [Nat.zero_add]); (first | exact (Ho4.out.alloc _).alloc _ | exact Ho4.out.alloc _ | exact Ho4.out); (refine srcBlk (t := 80) Try.underlying47 [_, _] 2 ?_ rfl ?_; (refine (Hon4.out.same _ ?_ ?_).trans ?_; (first | omega | (focus (simp; done)) | (simp; omega)); (first | (focus (simp; done)) | (simp; omega)); (focus (simp only [drew_heap, heap_alloc_ite, World.size_alloc, ↓IntWalk.iteOmega, if_true]; done))); (focus (simp [Value.oneCell']; done))); (first | (simp only [maxLen]; omega) | (focus (simp [maxLen]; done))); (first | omega | (focus (simp; done))))); intro ao5 cap5 g5 w5 ho5 hg5 hon5; have hB5 : Below w2.heap.size w2 w5 := HB4.out.trans ((by repeat (first | exact Below.refl _ _ | refine Below.drew ?_ | refine Below.alloc ?_ (by first | omega | (simp; try omega)) _) : Below w2.heap.size w4 _).trans (hon5.below (by first | omega | (simp; try omega)) (fun k hk e => by have := Hg4n.out k e; omega))); have e5 := ((bcell hB5).1 w.heap.size 0 (by omega)).trans e0; have b5 := ((bcell hB5).1 (w.heap.size + 1) 0 (by omega)).trans a0; have c5 := ((bcell hB5).1 (w.heap.size + 1) 1 (by omega)).trans a1; have hg5n : ∀ k, g5 = some k → w2.heap.size ≤ k := (fun k h => by rcases hg5 with e | e <;> rw [e] at h <;> first | exact Hg4n.out k h | (have h := Option.some.inj h; first | omega | (simp at h; omega))); have Hg5n := Lib.hid hg5n; have Ho5 := Lib.hid ho5; have Hon5 := Lib.hid hon5; have HB5 := Lib.hid hB5; clear ho5 hg5 hon5 hB5 hg5n)
          | fail "no arm")
      all_goals
        go_wp2_with fail
        go_ret
        have hB := HB2.out.trans (HB5.out.mono (by omega))
        have ho5 := Ho5.out
        try rw [Nat.zero_add] at ho5
        try rw [← Hlen.out] at ho5
        refine ⟨ao5, cap5, by rw [HWr.out]; first | (simp; done) | (have hl2 := Hlen.out; simp at hl2; simp [hl2]; done), by rw [HWr.out]; have := ho5.capLe.1; simpa using this, ho5.capLe.2, by rw [HWr.out]; exact with_new (x := (x0, x1, x2)) (ta := 42) Hall.out Hfp.out hB ho5 (by
          refine (Hon5.out.same _ ?_ ?_).trans ?_
          · first | omega | (simp; done) | (simp; omega) | skip
          · exact fun e => by first | (have := Ho4.out.lt _ e; omega) | (rcases Hg4.out with h | h <;> rw [h] at e <;> simp at e <;> omega)
          · first
              | (simp only [drew_heap, heap_alloc_ite, World.size_alloc, ↓IntWalk.iteOmega, if_true]; done)
              | (simp only [drew_heap, heap_alloc_ite, World.size_alloc, ↓IntWalk.iteOmega, if_true, if_false]; refine (Hon4.out.same _ ?_ ?_).trans ?_ <;> first | omega | (simp; done) | (simp; omega) | (simp only [drew_heap, heap_alloc_ite, World.size_alloc, ↓IntWalk.iteOmega, if_true]; done))
              | (refine (Hon4.out.same _ ?_ ?_).trans ?_ <;> first | omega | (simp; done) | (simp; omega) | (simp only [drew_heap, heap_alloc_ite, World.size_alloc, ↓IntWalk.iteOmega, if_true]; done))) Hx.out (fun b h => by have := Hg5n.out b h; omega) (by omega), hB⟩
end Go.Proofs.Ytlgnpogmgpgdaaa

namespace Go.Proofs.Ytlgnpogmgpgdaaa
set_option linter.unusedSimpArgs false
set_option linter.unusedVariables false
set_option maxRecDepth 100000
open Go.RowKit

def hasR (out : List RowD) (x : EdgeD) : Nat := match out.getLast? with
  | some r => if r.1 = x.1 then sumA r.2 else 0
  | none => 0
def isBelow (lastE : Option EdgeD) (x : EdgeD) : Bool := match lastE with
  | some l => belowE x l
  | none => false
/-- as the reference goes through the keys -/
def rrowsGo (out : List RowD) (lastE : Option EdgeD) : List (List UInt8) → List RowD × Nat
  | [] => (out, 0)
  | k :: ks =>
    if k.length ≠ 12 ∨ (keyE k).2.2 = 0 then ([], 3) else
    if isBelow lastE (keyE k) = true then ([], 13) else
    if 2147483647 < hasR out (keyE k) + (keyE k).2.2 then ([], 10) else rrowsGo (withR out (keyE k)) (some (keyE k)) ks
def flushR (row : RowD) : List RowD := if 0 < row.2.length then [row] else []
theorem flushR_pos {row : RowD} (h : 0 < row.2.length) : flushR row = [row] := if_pos h
theorem takeM_pos (row : RowD) (x : EdgeD) : 0 < (mtakeM row x).2.length := (takeM_len row x).2
theorem keyE_key {k : List UInt8} (h : k.length = 12) : key3 (keyE k).1 (keyE k).2.1 (keyE k).2.2 = k := by
  unfold keyE
  rw [if_pos h]
  exact (key3_keyOf k h).1
theorem belowE_keys {k l : List UInt8} (hk : k.length = 12) (hl : l.length = 12) : belowE (keyE k) (keyE l) = decide (Lib.compareBytes k l < 0) := by
  rw [Bool.eq_iff_iff, belowE_key _ _ (keyE_ok k) (keyE_ok l), keyE_key hk, keyE_key hl, decide_eq_true_eq, cmp_lt]
theorem withR_step (done : List RowD) (row : RowD) (x : EdgeD) (h : 0 < row.2.length ∨ done = []) : withR (done ++ flushR row) x = done ++ (if fullB row x = true then [row] else []) ++ flushR (mtakeM row x) := by
  rw [flushR_pos (takeM_pos row x)]
  by_cases h0 : 0 < row.2.length
  · rw [flushR_pos h0]
    unfold withR
    rw [List.getLast?_concat]
    simp only [List.dropLast_concat]
    by_cases h1 : row.1 = x.1
    · have hf : fullB row x = false := by simp [fullB, h1]
      have ht : mtakeM row x = (row.1, addArc row.2 x) := if_pos ⟨h0, h1⟩
      rw [if_pos h1, hf, ht, h1]
      simp
    · have hf : fullB row x = true := by simp [fullB, h0, h1]
      have ht : mtakeM row x = (x.1, [(x.2.1, x.2.2)]) := if_neg (fun h => h1 h.2)
      rw [if_neg h1, hf, ht]
      simp
  · obtain rfl : done = [] := h.resolve_left h0
    have hf : fullB row x = false := by simp [fullB, h0]
    have ht : mtakeM row x = (x.1, [(x.2.1, x.2.2)]) := if_neg (fun h => h0 h.1)
    have hfl : flushR row = [] := if_neg h0
    rw [hf, ht, hfl]
    simp [withR]
theorem hasR_left (done : List RowD) (row : RowD) (x : EdgeD) (h : 0 < row.2.length ∨ done = []) (hs : sumA row.2 ≤ 2147483647) : (2147483647 < hasR (done ++ flushR row) x + x.2.2) ↔ leftOf row x < x.2.2 := by
  unfold leftOf hasR
  by_cases h0 : 0 < row.2.length
  · rw [flushR_pos h0, List.getLast?_concat]
    simp only
    by_cases h1 : row.1 = x.1
    · rw [if_pos h1, if_pos ⟨h0, h1⟩]; omega
    · rw [if_neg h1, if_neg (fun h => h1 h.2)]; omega
  · obtain rfl : done = [] := h.resolve_left h0
    have hfl : flushR row = [] := if_neg h0
    rw [hfl, if_neg (fun h => h0 h.1)]
    simp
theorem rrowsGo_told : ∀ (ks : List (List UInt8)) (done : List RowD) (row : RowD) (lastE : Option EdgeD) (last : List UInt8), okRow row →
    ((lastE = none ∧ last = [] ∧ done = [] ∧ row.2.length = 0) ∨ (last.length = 12 ∧ lastE = some (keyE last) ∧ 0 < row.2.length)) →
    rrowsGo (done ++ flushR row) lastE ks = if (mtold row last ks).2 = 0 then (done ++ (mtold row last ks).1, 0) else ([], (mtold row last ks).2)
  | [], done, row, lastE, last, hok, h => by
    unfold rrowsGo mtold
    rw [if_pos rfl]
    rfl
  | k :: ks, done, row, lastE, last, hok, h => by
    have hd : 0 < row.2.length ∨ done = [] := by rcases h with ⟨_, _, h, _⟩ | ⟨_, _, h⟩; exact .inr h; exact .inl h
    unfold rrowsGo mtold
    by_cases h1 : k.length ≠ 12 ∨ (keyE k).2.2 = 0
    · have he : mayErr row last k = 3 := if_pos h1
      rw [if_pos h1, he]
      simp
    · rw [if_neg h1]
      have hk12 : k.length = 12 := by omega
      have hb : isBelow lastE (keyE k) = decide (Lib.compareBytes k last < 0) := by
        rcases h with ⟨rfl, rfl, _, _⟩ | ⟨hl, rfl, _⟩
        · show false = _
          cases k <;> simp [Lib.compareBytes]
        · exact belowE_keys hk12 hl
      by_cases h2 : Lib.compareBytes k last < 0
      · have he : mayErr row last k = 13 := by unfold mayErr; rw [if_neg h1, if_pos h2]
        rw [hb, if_pos (by simpa using h2), he]
        simp
      · rw [hb, if_neg (by simpa using h2)]
        have hl := hasR_left done row (keyE k) hd hok.2.2
        by_cases h3 : leftOf row (keyE k) < (keyE k).2.2
        · have he : mayErr row last k = 10 := by unfold mayErr; rw [if_neg h1, if_neg h2, if_pos h3]
          rw [if_pos (hl.2 h3), he]
          simp
        · have he : mayErr row last k = 0 := by unfold mayErr; rw [if_neg h1, if_neg h2, if_neg h3]
          rw [if_neg (fun h => h3 (hl.1 h)), he, withR_step done row (keyE k) hd]
          rw [rrowsGo_told ks (done ++ if fullB row (keyE k) = true then [row] else []) (mtakeM row (keyE k)) (some (keyE k)) k (takeM_ok hok (keyE_ok k) (may_ok he).2.2.2) (.inr ⟨hk12, rfl, takeM_pos row (keyE k)⟩)]
          simp only [ne_eq, not_true_eq_false, if_false, List.append_assoc]
def rrows (ks : List (List UInt8)) : List RowD × Nat := rrowsGo [] none ks
theorem rrows_rows (ks : List (List UInt8)) : rrows ks = rowsOf ks := by
  have h := rrowsGo_told ks [] (0, []) none [] ⟨by simp, by simp, by simp [sumA]⟩ (.inl ⟨rfl, rfl, rfl, rfl⟩)
  unfold rrows rowsOf
  simpa [flushR] using h
theorem rof_any (l : List UInt8) (ao : Option Addr) (cap : Nat) (w : World) (hcap : l.length ≤ cap) (hrd : Rd w ao l.length (byteVals l)) :
    Calls Try.prog 87 #[.slice ao l.length cap] w fun e w' => e = .returned (.tuple #[edgeV (keyE l), .bool (decide (l.length = 12))]) ∧ Below w.heap.size w w' := by
  unfold keyE
  by_cases h : l.length = 12
  · rw [if_pos h, decide_eq_true h]
    exact rof_yes l ao cap w h hcap hrd
  · rw [if_neg h, decide_eq_false h]
    exact rof_no l.length cap ao w h
def lastV (lastE : Option EdgeD) : EdgeD := lastE.getD (0, 0, 0)
structure RrS (recs : List (List UInt8)) (w : World) (k : Nat) (out : List RowD) (lastE : Option EdgeD) (ao : Option Addr) (cap : Nat) (wr : World) : Prop where
  hk : k ≤ recs.length
  go : rrows recs = rrowsGo out lastE (recs.drop k)
  k0 : lastE = none → k = 0 ∧ out = []
  k1 : ∀ l, lastE = some l → 0 < k ∧ okE l ∧ out ≠ []
  len : out.length ≤ k
  rows : ∀ A r, out = A ++ [r] → 0 < r.2.length ∧ r.2.length ≤ k ∧ sumA r.2 ≤ 2147483647
  c0 : wr.cell? ⟨w.heap.size + 1, 0, none⟩ = some (.int .u32 ((lastV lastE).1 : Nat))
  c1 : wr.cell? ⟨w.heap.size + 1, 1, none⟩ = some (.int .u32 ((lastV lastE).2.1 : Nat))
  c2 : wr.cell? ⟨w.heap.size + 1, 2, none⟩ = some (.int .u32 ((lastV lastE).2.2 : Nat))
  f0 : ∀ j, wr.frozen? ⟨w.heap.size + 1, j, none⟩ = false
  rd : RdS rowRep (fun b => w.heap.size ≤ b ∧ b ≠ w.heap.size + 1 ∧ b < wr.heap.size) wr ao out
  capLe : out.length ≤ cap ∧ cap ≤ maxLen
  below : Below w.heap.size w wr
  sz : w.heap.size + 2 ≤ wr.heap.size
def rrI (recs : List (List UInt8)) (w : World) (o i : Value) (wr : World) : Prop :=
  ∃ k out lastE ao cap, i = .int .i64 (k : Nat) ∧ o = .slice ao out.length cap ∧ RrS recs w k out lastE ao cap wr
theorem withR_last (out : List RowD) (x : EdgeD) : ∃ A r, withR out x = A ++ [r] ∧ (withR out x).length ≤ out.length + 1 ∧
    ((∃ A' r', out = A' ++ [r'] ∧ r'.1 = x.1 ∧ r = (x.1, addArc r'.2 x)) ∨ r = (x.1, [(x.2.1, x.2.2)])) := by
  rcases List.eq_nil_or_concat out with rfl | ⟨A, r, h⟩
  · exact ⟨[], _, rfl, by simp [withR], .inr rfl⟩
  · rw [List.concat_eq_append] at h
    subst h
    unfold withR
    rw [List.getLast?_concat]
    simp only [List.dropLast_concat]
    by_cases h1 : r.1 = x.1
    · rw [if_pos h1]
      exact ⟨A, _, rfl, by simp, .inl ⟨A, r, rfl, h1, rfl⟩⟩
    · rw [if_neg h1]
      exact ⟨A ++ [r], _, rfl, by simp, .inr rfl⟩
theorem snoc_inj {α : Type} {A B : List α} {a b : α} (h : A ++ [a] = B ++ [b]) : A = B ∧ a = b := by
  have := List.append_inj' h rfl
  exact ⟨this.1, by simpa using this.2⟩
theorem hasR_of {A : List RowD} {r : RowD} {x : EdgeD} : hasR (A ++ [r]) x = if r.1 = x.1 then sumA r.2 else 0 := by
  unfold hasR
  rw [List.getLast?_concat]
/-- a round that goes on -/
theorem RrS.step {recs : List (List UInt8)} {w : World} {k : Nat} {out : List RowD} {lastE : Option EdgeD} {ao : Option Addr} {cap : Nat} {wr : World} (h : RrS recs w k out lastE ao cap wr) (hk : k < recs.length) {r : List UInt8} {x : EdgeD} (hr : recs.drop k = r :: recs.drop (k + 1)) (hx : keyE r = x) (h1 : ¬ (r.length ≠ 12 ∨ x.2.2 = 0)) (h2 : isBelow lastE x = false)
    (h3 : ¬ 2147483647 < hasR out x + x.2.2) {W5 W6 : World} {ao6 : Option Addr} {cap6 : Nat} (hB5 : Below wr.heap.size wr W5) (hB6 : Below W5.heap.size W5 W6) (hrd : RdS rowRep (fun b => (w.heap.size ≤ b ∧ b ≠ w.heap.size + 1 ∧ b < wr.heap.size) ∨ W5.heap.size ≤ b) W6 ao6 (withR out x)) (hc : (withR out x).length ≤ cap6 ∧ cap6 ≤ maxLen) :
    RrS recs w (k + 1) (withR out x) (some x) ao6 cap6 (((W6.setCell ⟨w.heap.size + 1, 0, none⟩ (.int .u32 (x.1 : Nat))).setCell ⟨w.heap.size + 1, 1, none⟩ (.int .u32 (x.2.1 : Nat))).setCell ⟨w.heap.size + 1, 2, none⟩ (.int .u32 (x.2.2 : Nat))) := by
  have hokx : okE x := hx ▸ keyE_ok r
  obtain ⟨A, q, hw, hwl, hq⟩ := withR_last out x
  have hB := hB5.trans (hB6.mono hB5.size)
  have hs := hB.size
  have hsz := h.sz
  have cc := fun j => (bcell hB).1 (w.heap.size + 1) j (by omega)
  have ff := fun j => (bcell hB).2 (w.heap.size + 1) j (by omega)
  have c0 := (cc 0).trans h.c0
  have c1 := (cc 1).trans h.c1
  have c2 := (cc 2).trans h.c2
  have hon : Only (fun b => b = w.heap.size + 1) W6 (((W6.setCell ⟨w.heap.size + 1, 0, none⟩ (.int .u32 (x.1 : Nat))).setCell ⟨w.heap.size + 1, 1, none⟩ (.int .u32 (x.2.1 : Nat))).setCell ⟨w.heap.size + 1, 2, none⟩ (.int .u32 (x.2.2 : Nat))) :=
    (((Only.refl (fun b => b = w.heap.size + 1) W6).setCell (p := ⟨w.heap.size + 1, 0, none⟩) (fun _ => rfl) _).setCell (p := ⟨w.heap.size + 1, 1, none⟩) (fun _ => rfl) _).setCell (p := ⟨w.heap.size + 1, 2, none⟩) (fun _ => rfl) _
  refine ⟨by omega, ?_, by simp, fun l hl => ⟨by omega, by cases hl; exact hokx, by rw [hw]; simp⟩, by have := h.len; omega, ?_, by simp [cell_set_ite, c0, lastV], by simp [cell_set_ite, c1, lastV], by simp [cell_set_ite, c2, lastV], fun j => by simp [ff, h.f0], ?_, hc, ?_, by simp; omega⟩
  · rw [h.go, hr]
    conv => lhs; unfold rrowsGo
    rw [hx, if_neg h1, h2, if_neg (by simp), if_neg h3]
  · intro A' r' e
    rw [hw] at e
    obtain ⟨_, rfl⟩ := snoc_inj e
    rcases hq with ⟨A', r', ho, hrx, rfl⟩ | rfl
    · obtain ⟨h4, h5, h6⟩ := h.rows A' r' ho
      rw [ho, hasR_of, if_pos hrx] at h3
      exact ⟨(addArc_len _ _).2, by have := (addArc_len r'.2 x).1; simp only; omega, by simp only [addArc_sum]; omega⟩
    · exact ⟨by simp, by simp, by simp only [sumA_one]; omega⟩
  · refine (hrd.only hon (fun b hb _ e => ?_)).mono (fun b hb hl => ?_)
    · have := hB5.size
      rcases hb with hb | hb
      · exact hb.2.1 e
      · omega
    · have := hB5.size
      simp at hl ⊢
      rcases hb with hb | hb
      · exact ⟨hb.1, hb.2.1, by omega⟩
      · exact ⟨by omega, by omega, hl⟩
  · exact (((h.below.trans (hB.mono h.below.size)).setCell (by simp) _).setCell (by simp) _).setCell (by simp) _
theorem RowsRet.none {w W : World} {c n : Nat} {ao : Option Addr} {r : List RowD × Nat} (h : r = ([], n)) (hB : Below w.heap.size w W) (hc : c ≤ maxLen) : RowsRet r w (.returned (.tuple #[.slice ao 0 c, .int .i64 (n : Nat)])) W := by
  subst h; exact ⟨ao, c, rfl, by simp, hc, .inl rfl, hB⟩

set_option maxRecDepth 100000 in
set_option maxHeartbeats 3200000 in
theorem rrows_any (recs : List (List UInt8)) (ao : Option Addr) (cap : Nat) (w : World) (hl : recs.length ≤ 100000) (hrd : RdS (Rep.slice Rep.u8) (fun k => k < w.heap.size) w ao recs) :
    Calls Try.prog 60 #[.slice ao recs.length cap] w (RowsRet (rrows recs) w) := by
  have Hrd := Lib.hid hrd
  clear hrd
  go_enter Try.func60, Try.ntmps60
  go_wp2_with fail
  go_loopw [4, 14] (fun o i wr => rrI recs w o i wr) (fun _ i _ => recs.length - (intOf i).toNat)
  case atStart =>
    refine ⟨0, [], none, some ⟨w.heap.size, 0, none⟩, 0, rfl, rfl, ⟨by omega, rfl, fun _ => ⟨rfl, rfl⟩, by simp, by simp, by simp, ?_, ?_, ?_, fun j => ?_, .inl rfl, by simp [maxLen], (ext_alloc w _).alloc (by simp) _, by simp⟩⟩
    all_goals simp [go_sem, ↓IntWalk.iteOmega, lastV]
  case round =>
    obtain ⟨k, out, lastE, ao', cap', rfl, rfl, hS⟩ := hrel
    have hk := hS.hk
    have HS := Lib.hid hS
    clear hS
    by_cases hlt : k < recs.length
    · obtain ⟨bb, off, cs, rfl, hbw, hbb, ⟨ra, rc, rfl, hrc1, hrc2, hrr⟩, hcell⟩ := (Hrd.out.below HS.out.below (fun _ h => h)).at k hlt
      have hce := hcell 0 Nat.one_pos
      simp only [Rep.slice, Nat.mul_one, Nat.add_zero, List.getElem?_cons_zero] at hce
      have hir : (k : Int) < (recs.length : Int) := by omega
      have hdr : recs.drop k = recs[k] :: recs.drop (k + 1) := List.drop_eq_getElem_cons hlt
      obtain ⟨r, hr⟩ : ∃ r, recs[k] = r := ⟨_, rfl⟩
      rw [hr] at hce hrr hrc1 hdr
      have hO := rof_any r ra rc wr hrc1 hrr.rdU8
      have Hdr := Lib.hid hdr
      have hgo := HS.out.go
      rw [hdr] at hgo
      conv at hgo => rhs; unfold rrowsGo
      have hok := keyE_ok r
      obtain ⟨⟨x0, x1, x2⟩, hx⟩ : ∃ x, keyE r = x := ⟨_, rfl⟩
      rw [hx] at hgo hO hok
      simp only [edgeV] at hO
      have Hx := Lib.hid hx
      have Hok := Lib.hid hok
      have HOf := Lib.hid hO
      have Hgo := Lib.hid hgo
      clear hcell hrr hr hdr hgo hO hx hok
      by_cases h1 : r.length ≠ 12 ∨ x2 = 0
      · have hg := Hgo.out
        rw [if_pos h1] at hg
        have Hbad := Lib.hid hg
        clear hg
        by_cases h12 : r.length = 12
        · have hz : x2 = 0 := by omega
          have hd : decide (r.length = 12) = true := decide_eq_true h12
          rw [hd] at HOf
          subst hz
          clear h1 hd h12
          go_wp2_with (go_at_call 87; refine HOf.out.mono ?_; rintro e W2 ⟨rfl, hB2⟩; have hs2 := hB2.size; have HB2 := Lib.hid hB2; clear hB2)
          go_ret2
          have hs := HS.out.below.size
          exact RowsRet.none Hbad.out (((HS.out.below.trans (HB2.out.mono hs)).alloc (by omega) _).alloc (by simp; omega) _) (by simp [maxLen])
        · have hd : decide (r.length = 12) = false := decide_eq_false h12
          rw [hd] at HOf
          clear h1 hd h12
          go_wp2_with (go_at_call 87; refine HOf.out.mono ?_; rintro e W2 ⟨rfl, hB2⟩; have hs2 := hB2.size; have HB2 := Lib.hid hB2; clear hB2)
          go_ret2
          have hs := HS.out.below.size
          exact RowsRet.none Hbad.out (((HS.out.below.trans (HB2.out.mono hs)).alloc (by omega) _).alloc (by simp; omega) _) (by simp [maxLen])
      · have hd : decide (r.length = 12) = true := decide_eq_true (by omega)
        rw [hd] at HOf
        have hx2 : ((x2 : Int) == 0) = false := by simp; omega
        have H1 := Lib.hid h1
        clear hd
        have hg := Hgo.out
        rw [if_neg h1] at hg
        have Hg := Lib.hid hg
        clear hg h1
        have hxb : x2 < 4294967296 := Hok.out.2.2
        have hLw : w.heap.size + 1 < wr.heap.size := by have := HS.out.sz; omega
        cases hle : lastE with
        | none =>
          subst hle
          have h2 : isBelow none (x0, x1, x2) = false := rfl
          obtain ⟨hk0, ho0⟩ := HS.out.k0 rfl
          have hko : decide ((0 : Int) < (k : Int)) = false := decide_eq_false (by omega)
          have hko2 : decide (0 < k) = false := decide_eq_false (by omega)
          have hol : decide ((0 : Int) < (out.length : Int)) = false := decide_eq_false (by simp [ho0])
          have hol2 : decide (0 < out.length) = false := decide_eq_false (by simp [ho0])
          have hhas : hasR out (x0, x1, x2) = 0 := by rw [ho0]; rfl
          by_cases h3 : 2147483647 < hasR out (x0, x1, x2) + x2
          · have hd3 : decide ((2147483647 : Int) < (x2 : Int)) = true := decide_eq_true (by omega)
            clear hk0 ho0
            go_wp2_with (go_at_call 87; refine HOf.out.mono ?_; rintro e W2 ⟨rfl, hB2⟩; have hs2 := hB2.size; have HB2 := Lib.hid hB2; clear hB2)
            obtain ⟨W3, hW3⟩ : ∃ W3, W2.alloc (Obj.cells #[Value.int IntKind.u32 (x0 : Nat), Value.int IntKind.u32 (x1 : Nat), Value.int IntKind.u32 (x2 : Nat)] 56) = W3 := ⟨_, rfl⟩
            have hBr3 : Below wr.heap.size wr W3 := by rw [← hW3]; exact HB2.out.trans ((ext_alloc W2 _).mono HB2.out.size)
            have e0 : W3.cell? ⟨W2.heap.size, 0, none⟩ = some (.int .u32 (x0 : Nat)) := by rw [← hW3]; simp [go_sem, ↓IntWalk.iteOmega]
            have e1 : W3.cell? ⟨W2.heap.size, 1, none⟩ = some (.int .u32 (x1 : Nat)) := by rw [← hW3]; simp [go_sem, ↓IntWalk.iteOmega]
            have e2 : W3.cell? ⟨W2.heap.size, 2, none⟩ = some (.int .u32 (x2 : Nat)) := by rw [← hW3]; simp [go_sem, ↓IntWalk.iteOmega]
            have hs3 : W2.heap.size + 1 ≤ W3.heap.size := by rw [← hW3]; simp
            rw [hW3]
            have HB3 := Lib.hid hBr3
            clear hW3 hBr3
            go_wp2_with fail
            go_quiet (fail)
            obtain ⟨WQ, hWQ⟩ : ∃ WQ, (W3).drewN nq = WQ := ⟨_, rfl⟩
            have e0 : WQ.cell? ⟨W2.heap.size, 0, none⟩ = some (.int .u32 (x0 : Nat)) := by rw [← hWQ]; simpa [go_sem] using e0
            have e1 : WQ.cell? ⟨W2.heap.size, 1, none⟩ = some (.int .u32 (x1 : Nat)) := by rw [← hWQ]; simpa [go_sem] using e1
            have e2 : WQ.cell? ⟨W2.heap.size, 2, none⟩ = some (.int .u32 (x2 : Nat)) := by rw [← hWQ]; simpa [go_sem] using e2
            have hBQ : Below wr.heap.size wr WQ := by rw [← hWQ]; exact below_drewN HB3.out _
            have hsQ : W2.heap.size + 1 ≤ WQ.heap.size := by rw [← hWQ]; simpa using hs3
            rw [hWQ]
            have HBQ := Lib.hid hBQ
            clear hWQ hBQ
            have Hbad := Lib.hid (show rrows recs = ([], 10) by have h := Hg.out; rw [h2, if_neg (by simp), if_pos h3] at h; exact h)
            clear h3 h2
            go_wp2_with (fail)
            go_ret2
            exact RowsRet.none Hbad.out ((HS.out.below.trans (HBQ.out.mono HS.out.below.size)).alloc (by have := HBQ.out.size; have := HS.out.below.size; omega) _) (by simp [maxLen])
          · have hd3 : decide ((2147483647 : Int) < (x2 : Int)) = false := decide_eq_false (by omega)
            have HWith := Lib.hid (fun (W' : World) (hB : Below wr.heap.size wr W') => with_any out (x0, x1, x2) _ cap' W' (by have := HS.out.len; omega) Hok.out _ (fun b (hb : w.heap.size ≤ b ∧ b ≠ w.heap.size + 1 ∧ b < wr.heap.size) => Nat.lt_of_lt_of_le hb.2.2 hB.size) (HS.out.rd.ext hB) HS.out.capLe.1 (fun A q h => by
              obtain ⟨q1, q2, q3⟩ := HS.out.rows A q h
              refine ⟨q1, by omega, fun hq => ?_⟩
              have h4 := h3
              rw [h, hasR_of, if_pos hq] at h4
              have h4 : ¬ 2147483647 < sumA q.2 + x2 := h4
              show sumA q.2 + x2 ≤ 2147483647
              omega))
            simp only [edgeV] at HWith
            have H3 := Lib.hid h3
            have H2 := Lib.hid h2
            clear h3 h2
            clear hk0 ho0
            go_wp2_with (go_at_call 87; refine HOf.out.mono ?_; rintro e W2 ⟨rfl, hB2⟩; have hs2 := hB2.size; have HB2 := Lib.hid hB2; clear hB2)
            obtain ⟨W3, hW3⟩ : ∃ W3, W2.alloc (Obj.cells #[Value.int IntKind.u32 (x0 : Nat), Value.int IntKind.u32 (x1 : Nat), Value.int IntKind.u32 (x2 : Nat)] 56) = W3 := ⟨_, rfl⟩
            have hBr3 : Below wr.heap.size wr W3 := by rw [← hW3]; exact HB2.out.trans ((ext_alloc W2 _).mono HB2.out.size)
            have e0 : W3.cell? ⟨W2.heap.size, 0, none⟩ = some (.int .u32 (x0 : Nat)) := by rw [← hW3]; simp [go_sem, ↓IntWalk.iteOmega]
            have e1 : W3.cell? ⟨W2.heap.size, 1, none⟩ = some (.int .u32 (x1 : Nat)) := by rw [← hW3]; simp [go_sem, ↓IntWalk.iteOmega]
            have e2 : W3.cell? ⟨W2.heap.size, 2, none⟩ = some (.int .u32 (x2 : Nat)) := by rw [← hW3]; simp [go_sem, ↓IntWalk.iteOmega]
            have hs3 : W2.heap.size + 1 ≤ W3.heap.size := by rw [← hW3]; simp
            rw [hW3]
            have HB3 := Lib.hid hBr3
            clear hW3 hBr3
            go_wp2_with fail
            go_quiet (fail)
            obtain ⟨WQ, hWQ⟩ : ∃ WQ, (W3).drewN nq = WQ := ⟨_, rfl⟩
            have e0 : WQ.cell? ⟨W2.heap.size, 0, none⟩ = some (.int .u32 (x0 : Nat)) := by rw [← hWQ]; simpa [go_sem] using e0
            have e1 : WQ.cell? ⟨W2.heap.size, 1, none⟩ = some (.int .u32 (x1 : Nat)) := by rw [← hWQ]; simpa [go_sem] using e1
            have e2 : WQ.cell? ⟨W2.heap.size, 2, none⟩ = some (.int .u32 (x2 : Nat)) := by rw [← hWQ]; simpa [go_sem] using e2
            have hBQ : Below wr.heap.size wr WQ := by rw [← hWQ]; exact below_drewN HB3.out _
            have hsQ : W2.heap.size + 1 ≤ WQ.heap.size := by rw [← hWQ]; simpa using hs3
            rw [hWQ]
            have HBQ := Lib.hid hBQ
            clear hWQ hBQ
            go_wp2_with (first
              | fail
              | (go_at_call 89; refine (HWith.out _ HBQ.out).mono ?_; rintro e W6 ⟨ao6, cap6, rfl, hc6, hm6, hr6, hB6⟩; have g0 := ((bcell (HBQ.out.trans (hB6.mono HBQ.out.size))).1 (w.heap.size + 1) 0 hLw).trans HS.out.c0; have g1 := ((bcell (HBQ.out.trans (hB6.mono HBQ.out.size))).1 (w.heap.size + 1) 1 hLw).trans HS.out.c1; have g2 := ((bcell (HBQ.out.trans (hB6.mono HBQ.out.size))).1 (w.heap.size + 1) 2 hLw).trans HS.out.c2; have k0 := ((bcell (HBQ.out.trans (hB6.mono HBQ.out.size))).2 (w.heap.size + 1) 0 hLw).trans (HS.out.f0 0); have k1 := ((bcell (HBQ.out.trans (hB6.mono HBQ.out.size))).2 (w.heap.size + 1) 1 hLw).trans (HS.out.f0 1); have k2 := ((bcell (HBQ.out.trans (hB6.mono HBQ.out.size))).2 (w.heap.size + 1) 2 hLw).trans (HS.out.f0 2); have j0 := ((bcell hB6).1 W2.heap.size 0 hsQ).trans e0; have j1 := ((bcell hB6).1 W2.heap.size 1 hsQ).trans e1; have j2 := ((bcell hB6).1 W2.heap.size 2 hsQ).trans e2; have Hc6 := Lib.hid (And.intro hc6 hm6); have Hr6 := Lib.hid hr6; have HB6 := Lib.hid hB6; clear hc6 hm6 hr6 hB6))
            go_roundw
            case rel => exact ⟨k + 1, _, _, ao6, cap6, by go_num, rfl, HS.out.step hlt Hdr.out Hx.out H1.out H2.out H3.out HBQ.out HB6.out Hr6.out Hc6.out⟩
            case measure => simp [intOf]; omega
        | some l =>
          subst hle
          obtain ⟨hk0, hokl, hne⟩ := HS.out.k1 l rfl
          obtain ⟨A, ⟨fr, arcs⟩, ho⟩ : ∃ A q, out = A ++ [q] := by
            rcases List.eq_nil_or_concat out with h | ⟨A, q, h⟩
            · exact absurd h hne
            · exact ⟨A, q, by rw [h, List.concat_eq_append]⟩
          have hrdo := HS.out.rd
          rw [ho] at hrdo
          obtain ⟨bo, oo, ap, cp, rfl, hbo, hq0, hq1, hqf, hqc, hqm, hqa⟩ := hrdo.row A.length (by simp)
          simp only [List.getElem_concat_length] at hq0 hq1 hqf hqc hqa
          obtain ⟨q1, q2, q3⟩ := HS.out.rows A (fr, arcs) ho
          simp only at q1 q2 q3
          have hon : out.length = A.length + 1 := by rw [ho]; simp
          have hhas : hasR out (x0, x1, x2) = if fr = x0 then sumA arcs else 0 := by rw [ho, hasR_of]
          have hSum := fun (W' : World) (hB : Below wr.heap.size wr W') => rsum_any arcs ap cp _ W' (by omega) (hqa.ext hB)
          have HSum := Lib.hid hSum
          obtain ⟨l0', l1', l2'⟩ := l
          have l0 := HS.out.c0
          have l1 := HS.out.c1
          have l2 := HS.out.c2
          simp only [lastV, Option.getD_some] at l0 l1 l2
          have hBl := ebelow_any (x0, x1, x2) (l0', l1', l2')
          simp only [edgeV] at hBl
          have hlen := HS.out.len
          clear ho hrdo hne hqa hSum hqf
          generalize A.length = n at hq0 hq1 hon
          have hko : decide ((0 : Int) < (k : Int)) = true := decide_eq_true (by omega)
          have hko2 : decide (0 < k) = true := decide_eq_true (by omega)
          have hol : decide ((0 : Int) < (n : Int) + 1) = true := decide_eq_true (by omega)
          have hoi : (n : Int) < (n : Int) + 1 := by omega
          have hoi2 : (0 : Int) ≤ (n : Int) := by omega
          by_cases h2 : isBelow (some (l0', l1', l2')) (x0, x1, x2) = true
          · have Hbad := Lib.hid (show rrows recs = ([], 13) by have h := Hg.out; rw [if_pos h2] at h; exact h)
            have h2' : belowE (x0, x1, x2) (l0', l1', l2') = true := h2
            rw [h2'] at hBl
            have HBl := Lib.hid hBl
            clear hBl h2 h2' hhas
            go_wp2_with (first
  | (go_at_call 87; refine HOf.out.mono ?_; rintro e W2 ⟨rfl, hB2⟩; have hs2 := hB2.size; have l0 := ((bcell hB2).1 (w.heap.size + 1) 0 hLw).trans l0; have l1 := ((bcell hB2).1 (w.heap.size + 1) 1 hLw).trans l1; have l2 := ((bcell hB2).1 (w.heap.size + 1) 2 hLw).trans l2; have HB2 := Lib.hid hB2; clear hB2)
  | (go_at_call 88; refine (HBl.out _).mono ?_; rintro e W3 ⟨rfl, hB4⟩; have e0 := ((bcell hB4).1 W2.heap.size 0 (by simp)).trans (show _ = some (Value.int .u32 (x0 : Nat)) by simp [go_sem, ↓IntWalk.iteOmega]); have e1 := ((bcell hB4).1 W2.heap.size 1 (by simp)).trans (show _ = some (Value.int .u32 (x1 : Nat)) by simp [go_sem, ↓IntWalk.iteOmega]); have e2 := ((bcell hB4).1 W2.heap.size 2 (by simp)).trans (show _ = some (Value.int .u32 (x2 : Nat)) by simp [go_sem, ↓IntWalk.iteOmega]); have HB3 := Lib.hid ((HB2.out.trans ((ext_alloc W2 _).mono hs2)).trans (hB4.mono (by simp; omega))); have hs3 : W2.heap.size + 1 ≤ W3.heap.size := (by have := hB4.size; simpa using this); clear hB4))
            go_ret2
            exact RowsRet.none Hbad.out ((HS.out.below.trans (HB3.out.mono HS.out.below.size)).alloc (by have := HB3.out.size; have := HS.out.below.size; omega) _) (by simp [maxLen])
          · have h2 : isBelow (some (l0', l1', l2')) (x0, x1, x2) = false := by simpa using h2
            have h2' : belowE (x0, x1, x2) (l0', l1', l2') = false := h2
            rw [h2'] at hBl
            have HBl := Lib.hid hBl
            clear hBl h2'
            by_cases hf : fr = x0
            · rw [if_pos hf] at hhas
              have hq : ((fr : Int) == (x0 : Int)) = true := by simp [hf]
              by_cases h3 : 2147483647 < hasR out (x0, x1, x2) + x2
              · have hd3 : decide ((2147483647 : Int) < (sumA arcs : Int) + (x2 : Int)) = true := decide_eq_true (by omega)
                clear hf
                rw [hon]
                go_wp2_with (first
  | (go_at_call 87; refine HOf.out.mono ?_; rintro e W2 ⟨rfl, hB2⟩; have hs2 := hB2.size; have l0 := ((bcell hB2).1 (w.heap.size + 1) 0 hLw).trans l0; have l1 := ((bcell hB2).1 (w.heap.size + 1) 1 hLw).trans l1; have l2 := ((bcell hB2).1 (w.heap.size + 1) 2 hLw).trans l2; have HB2 := Lib.hid hB2; clear hB2)
  | (go_at_call 88; refine (HBl.out _).mono ?_; rintro e W3 ⟨rfl, hB4⟩; have e0 := ((bcell hB4).1 W2.heap.size 0 (by simp)).trans (show _ = some (Value.int .u32 (x0 : Nat)) by simp [go_sem, ↓IntWalk.iteOmega]); have e1 := ((bcell hB4).1 W2.heap.size 1 (by simp)).trans (show _ = some (Value.int .u32 (x1 : Nat)) by simp [go_sem, ↓IntWalk.iteOmega]); have e2 := ((bcell hB4).1 W2.heap.size 2 (by simp)).trans (show _ = some (Value.int .u32 (x2 : Nat)) by simp [go_sem, ↓IntWalk.iteOmega]); have HB3 := Lib.hid ((HB2.out.trans ((ext_alloc W2 _).mono hs2)).trans (hB4.mono (by simp; omega))); have hs3 : W2.heap.size + 1 ≤ W3.heap.size := (by have := hB4.size; simpa using this); clear hB4))
                have r0c := ((bcell HB3.out).1 bo (oo + n * 2) hbo).trans hq0
                have r1c := ((bcell HB3.out).1 bo (oo + n * 2 + 1) hbo).trans hq1
                go_quiet (fail)
                obtain ⟨WQ, hWQ⟩ : ∃ WQ, (W3).drewN nq = WQ := ⟨_, rfl⟩
                have e0 : WQ.cell? ⟨W2.heap.size, 0, none⟩ = some (.int .u32 (x0 : Nat)) := by rw [← hWQ]; simpa [go_sem] using e0
                have e1 : WQ.cell? ⟨W2.heap.size, 1, none⟩ = some (.int .u32 (x1 : Nat)) := by rw [← hWQ]; simpa [go_sem] using e1
                have e2 : WQ.cell? ⟨W2.heap.size, 2, none⟩ = some (.int .u32 (x2 : Nat)) := by rw [← hWQ]; simpa [go_sem] using e2
                have hBQ : Below wr.heap.size wr WQ := by rw [← hWQ]; exact below_drewN HB3.out _
                have hsQ : W2.heap.size + 1 ≤ WQ.heap.size := by rw [← hWQ]; simpa using hs3
                rw [hWQ]
                have HBQ := Lib.hid hBQ
                clear hWQ hBQ
                have r0c := ((bcell HBQ.out).1 bo (oo + n * 2) hbo).trans hq0
                have r1c := ((bcell HBQ.out).1 bo (oo + n * 2 + 1) hbo).trans hq1
                have Hbad := Lib.hid (show rrows recs = ([], 10) by have h := Hg.out; rw [h2, if_neg (by simp), if_pos h3] at h; exact h)
                clear h3 h2
                go_wp2_with ((go_at_call 56; refine (HSum.out _ HBQ.out).mono ?_; rintro e W5 ⟨rfl, hB5⟩; have e0 := ((bcell hB5).1 W2.heap.size 0 hsQ).trans e0; have e1 := ((bcell hB5).1 W2.heap.size 1 hsQ).trans e1; have e2 := ((bcell hB5).1 W2.heap.size 2 hsQ).trans e2; have HBQ := Lib.hid (HBQ.out.trans (hB5.mono HBQ.out.size)); have hsQ := Nat.le_trans hsQ hB5.size; clear hB5))
                go_ret2
                exact RowsRet.none Hbad.out ((HS.out.below.trans (HBQ.out.mono HS.out.below.size)).alloc (by have := HBQ.out.size; have := HS.out.below.size; omega) _) (by simp [maxLen])
              · have hd3 : decide ((2147483647 : Int) < (sumA arcs : Int) + (x2 : Int)) = false := decide_eq_false (by omega)
                have HWith := Lib.hid (fun (W' : World) (hB : Below wr.heap.size wr W') => with_any out (x0, x1, x2) _ cap' W' (by have := HS.out.len; omega) Hok.out _ (fun b (hb : w.heap.size ≤ b ∧ b ≠ w.heap.size + 1 ∧ b < wr.heap.size) => Nat.lt_of_lt_of_le hb.2.2 hB.size) (HS.out.rd.ext hB) HS.out.capLe.1 (fun A q h => by
                  obtain ⟨q1, q2, q3⟩ := HS.out.rows A q h
                  refine ⟨q1, by omega, fun hq => ?_⟩
                  have h4 := h3
                  rw [h, hasR_of, if_pos hq] at h4
                  have h4 : ¬ 2147483647 < sumA q.2 + x2 := h4
                  show sumA q.2 + x2 ≤ 2147483647
                  omega))
                simp only [edgeV] at HWith
                have H3 := Lib.hid h3
                have H2 := Lib.hid h2
                clear h3 h2
                clear hf
                rw [hon] at HWith ⊢
                go_wp2_with (first
  | (go_at_call 87; refine HOf.out.mono ?_; rintro e W2 ⟨rfl, hB2⟩; have hs2 := hB2.size; have l0 := ((bcell hB2).1 (w.heap.size + 1) 0 hLw).trans l0; have l1 := ((bcell hB2).1 (w.heap.size + 1) 1 hLw).trans l1; have l2 := ((bcell hB2).1 (w.heap.size + 1) 2 hLw).trans l2; have HB2 := Lib.hid hB2; clear hB2)
  | (go_at_call 88; refine (HBl.out _).mono ?_; rintro e W3 ⟨rfl, hB4⟩; have e0 := ((bcell hB4).1 W2.heap.size 0 (by simp)).trans (show _ = some (Value.int .u32 (x0 : Nat)) by simp [go_sem, ↓IntWalk.iteOmega]); have e1 := ((bcell hB4).1 W2.heap.size 1 (by simp)).trans (show _ = some (Value.int .u32 (x1 : Nat)) by simp [go_sem, ↓IntWalk.iteOmega]); have e2 := ((bcell hB4).1 W2.heap.size 2 (by simp)).trans (show _ = some (Value.int .u32 (x2 : Nat)) by simp [go_sem, ↓IntWalk.iteOmega]); have HB3 := Lib.hid ((HB2.out.trans ((ext_alloc W2 _).mono hs2)).trans (hB4.mono (by simp; omega))); have hs3 : W2.heap.size + 1 ≤ W3.heap.size := (by have := hB4.size; simpa using this); clear hB4))
                have r0c := ((bcell HB3.out).1 bo (oo + n * 2) hbo).trans hq0
                have r1c := ((bcell HB3.out).1 bo (oo + n * 2 + 1) hbo).trans hq1
                go_quiet (fail)
                obtain ⟨WQ, hWQ⟩ : ∃ WQ, (W3).drewN nq = WQ := ⟨_, rfl⟩
                have e0 : WQ.cell? ⟨W2.heap.size, 0, none⟩ = some (.int .u32 (x0 : Nat)) := by rw [← hWQ]; simpa [go_sem] using e0
                have e1 : WQ.cell? ⟨W2.heap.size, 1, none⟩ = some (.int .u32 (x1 : Nat)) := by rw [← hWQ]; simpa [go_sem] using e1
                have e2 : WQ.cell? ⟨W2.heap.size, 2, none⟩ = some (.int .u32 (x2 : Nat)) := by rw [← hWQ]; simpa [go_sem] using e2
                have hBQ : Below wr.heap.size wr WQ := by rw [← hWQ]; exact below_drewN HB3.out _
                have hsQ : W2.heap.size + 1 ≤ WQ.heap.size := by rw [← hWQ]; simpa using hs3
                rw [hWQ]
                have HBQ := Lib.hid hBQ
                clear hWQ hBQ
                have r0c := ((bcell HBQ.out).1 bo (oo + n * 2) hbo).trans hq0
                have r1c := ((bcell HBQ.out).1 bo (oo + n * 2 + 1) hbo).trans hq1
                go_wp2_with (first
                  | (go_at_call 56; refine (HSum.out _ HBQ.out).mono ?_; rintro e W5 ⟨rfl, hB5⟩; have e0 := ((bcell hB5).1 W2.heap.size 0 hsQ).trans e0; have e1 := ((bcell hB5).1 W2.heap.size 1 hsQ).trans e1; have e2 := ((bcell hB5).1 W2.heap.size 2 hsQ).trans e2; have HBQ := Lib.hid (HBQ.out.trans (hB5.mono HBQ.out.size)); have hsQ := Nat.le_trans hsQ hB5.size; clear hB5)
                  | (go_at_call 89; refine (HWith.out _ HBQ.out).mono ?_; rintro e W6 ⟨ao6, cap6, rfl, hc6, hm6, hr6, hB6⟩; have g0 := ((bcell (HBQ.out.trans (hB6.mono HBQ.out.size))).1 (w.heap.size + 1) 0 hLw).trans HS.out.c0; have g1 := ((bcell (HBQ.out.trans (hB6.mono HBQ.out.size))).1 (w.heap.size + 1) 1 hLw).trans HS.out.c1; have g2 := ((bcell (HBQ.out.trans (hB6.mono HBQ.out.size))).1 (w.heap.size + 1) 2 hLw).trans HS.out.c2; have k0 := ((bcell (HBQ.out.trans (hB6.mono HBQ.out.size))).2 (w.heap.size + 1) 0 hLw).trans (HS.out.f0 0); have k1 := ((bcell (HBQ.out.trans (hB6.mono HBQ.out.size))).2 (w.heap.size + 1) 1 hLw).trans (HS.out.f0 1); have k2 := ((bcell (HBQ.out.trans (hB6.mono HBQ.out.size))).2 (w.heap.size + 1) 2 hLw).trans (HS.out.f0 2); have j0 := ((bcell hB6).1 W2.heap.size 0 hsQ).trans e0; have j1 := ((bcell hB6).1 W2.heap.size 1 hsQ).trans e1; have j2 := ((bcell hB6).1 W2.heap.size 2 hsQ).trans e2; have Hc6 := Lib.hid (And.intro hc6 hm6); have Hr6 := Lib.hid hr6; have HB6 := Lib.hid hB6; clear hc6 hm6 hr6 hB6))
                go_roundw
                case rel => exact ⟨k + 1, _, _, ao6, cap6, by go_num, rfl, HS.out.step hlt Hdr.out Hx.out H1.out H2.out H3.out HBQ.out HB6.out Hr6.out Hc6.out⟩
                case measure => simp [intOf]; omega
            · rw [if_neg hf] at hhas
              have hq : ((fr : Int) == (x0 : Int)) = false := by simp; omega
              by_cases h3 : 2147483647 < hasR out (x0, x1, x2) + x2
              · have hd3 : decide ((2147483647 : Int) < (x2 : Int)) = true := decide_eq_true (by omega)
                clear hf
                rw [hon]
                go_wp2_with (first
  | (go_at_call 87; refine HOf.out.mono ?_; rintro e W2 ⟨rfl, hB2⟩; have hs2 := hB2.size; have l0 := ((bcell hB2).1 (w.heap.size + 1) 0 hLw).trans l0; have l1 := ((bcell hB2).1 (w.heap.size + 1) 1 hLw).trans l1; have l2 := ((bcell hB2).1 (w.heap.size + 1) 2 hLw).trans l2; have HB2 := Lib.hid hB2; clear hB2)
  | (go_at_call 88; refine (HBl.out _).mono ?_; rintro e W3 ⟨rfl, hB4⟩; have e0 := ((bcell hB4).1 W2.heap.size 0 (by simp)).trans (show _ = some (Value.int .u32 (x0 : Nat)) by simp [go_sem, ↓IntWalk.iteOmega]); have e1 := ((bcell hB4).1 W2.heap.size 1 (by simp)).trans (show _ = some (Value.int .u32 (x1 : Nat)) by simp [go_sem, ↓IntWalk.iteOmega]); have e2 := ((bcell hB4).1 W2.heap.size 2 (by simp)).trans (show _ = some (Value.int .u32 (x2 : Nat)) by simp [go_sem, ↓IntWalk.iteOmega]); have HB3 := Lib.hid ((HB2.out.trans ((ext_alloc W2 _).mono hs2)).trans (hB4.mono (by simp; omega))); have hs3 : W2.heap.size + 1 ≤ W3.heap.size := (by have := hB4.size; simpa using this); clear hB4))
                have r0c := ((bcell HB3.out).1 bo (oo + n * 2) hbo).trans hq0
                have r1c := ((bcell HB3.out).1 bo (oo + n * 2 + 1) hbo).trans hq1
                go_quiet (fail)
                obtain ⟨WQ, hWQ⟩ : ∃ WQ, (W3).drewN nq = WQ := ⟨_, rfl⟩
                have e0 : WQ.cell? ⟨W2.heap.size, 0, none⟩ = some (.int .u32 (x0 : Nat)) := by rw [← hWQ]; simpa [go_sem] using e0
                have e1 : WQ.cell? ⟨W2.heap.size, 1, none⟩ = some (.int .u32 (x1 : Nat)) := by rw [← hWQ]; simpa [go_sem] using e1
                have e2 : WQ.cell? ⟨W2.heap.size, 2, none⟩ = some (.int .u32 (x2 : Nat)) := by rw [← hWQ]; simpa [go_sem] using e2
                have hBQ : Below wr.heap.size wr WQ := by rw [← hWQ]; exact below_drewN HB3.out _
                have hsQ : W2.heap.size + 1 ≤ WQ.heap.size := by rw [← hWQ]; simpa using hs3
                rw [hWQ]
                have HBQ := Lib.hid hBQ
                clear hWQ hBQ
                have Hbad := Lib.hid (show rrows recs = ([], 10) by have h := Hg.out; rw [h2, if_neg (by simp), if_pos h3] at h; exact h)
                clear h3 h2
                go_wp2_with (fail)
                go_ret2
                exact RowsRet.none Hbad.out ((HS.out.below.trans (HBQ.out.mono HS.out.below.size)).alloc (by have := HBQ.out.size; have := HS.out.below.size; omega) _) (by simp [maxLen])
              · have hd3 : decide ((2147483647 : Int) < (x2 : Int)) = false := decide_eq_false (by omega)
                have HWith := Lib.hid (fun (W' : World) (hB : Below wr.heap.size wr W') => with_any out (x0, x1, x2) _ cap' W' (by have := HS.out.len; omega) Hok.out _ (fun b (hb : w.heap.size ≤ b ∧ b ≠ w.heap.size + 1 ∧ b < wr.heap.size) => Nat.lt_of_lt_of_le hb.2.2 hB.size) (HS.out.rd.ext hB) HS.out.capLe.1 (fun A q h => by
                  obtain ⟨q1, q2, q3⟩ := HS.out.rows A q h
                  refine ⟨q1, by omega, fun hq => ?_⟩
                  have h4 := h3
                  rw [h, hasR_of, if_pos hq] at h4
                  have h4 : ¬ 2147483647 < sumA q.2 + x2 := h4
                  show sumA q.2 + x2 ≤ 2147483647
                  omega))
                simp only [edgeV] at HWith
                have H3 := Lib.hid h3
                have H2 := Lib.hid h2
                clear h3 h2
                clear hf
                rw [hon] at HWith ⊢
                go_wp2_with (first
  | (go_at_call 87; refine HOf.out.mono ?_; rintro e W2 ⟨rfl, hB2⟩; have hs2 := hB2.size; have l0 := ((bcell hB2).1 (w.heap.size + 1) 0 hLw).trans l0; have l1 := ((bcell hB2).1 (w.heap.size + 1) 1 hLw).trans l1; have l2 := ((bcell hB2).1 (w.heap.size + 1) 2 hLw).trans l2; have HB2 := Lib.hid hB2; clear hB2)
  | (go_at_call 88; refine (HBl.out _).mono ?_; rintro e W3 ⟨rfl, hB4⟩; have e0 := ((bcell hB4).1 W2.heap.size 0 (by simp)).trans (show _ = some (Value.int .u32 (x0 : Nat)) by simp [go_sem, ↓IntWalk.iteOmega]); have e1 := ((bcell hB4).1 W2.heap.size 1 (by simp)).trans (show _ = some (Value.int .u32 (x1 : Nat)) by simp [go_sem, ↓IntWalk.iteOmega]); have e2 := ((bcell hB4).1 W2.heap.size 2 (by simp)).trans (show _ = some (Value.int .u32 (x2 : Nat)) by simp [go_sem, ↓IntWalk.iteOmega]); have HB3 := Lib.hid ((HB2.out.trans ((ext_alloc W2 _).mono hs2)).trans (hB4.mono (by simp; omega))); have hs3 : W2.heap.size + 1 ≤ W3.heap.size := (by have := hB4.size; simpa using this); clear hB4))
                have r0c := ((bcell HB3.out).1 bo (oo + n * 2) hbo).trans hq0
                have r1c := ((bcell HB3.out).1 bo (oo + n * 2 + 1) hbo).trans hq1
                go_quiet (fail)
                obtain ⟨WQ, hWQ⟩ : ∃ WQ, (W3).drewN nq = WQ := ⟨_, rfl⟩
                have e0 : WQ.cell? ⟨W2.heap.size, 0, none⟩ = some (.int .u32 (x0 : Nat)) := by rw [← hWQ]; simpa [go_sem] using e0
                have e1 : WQ.cell? ⟨W2.heap.size, 1, none⟩ = some (.int .u32 (x1 : Nat)) := by rw [← hWQ]; simpa [go_sem] using e1
                have e2 : WQ.cell? ⟨W2.heap.size, 2, none⟩ = some (.int .u32 (x2 : Nat)) := by rw [← hWQ]; simpa [go_sem] using e2
                have hBQ : Below wr.heap.size wr WQ := by rw [← hWQ]; exact below_drewN HB3.out _
                have hsQ : W2.heap.size + 1 ≤ WQ.heap.size := by rw [← hWQ]; simpa using hs3
                rw [hWQ]
                have HBQ := Lib.hid hBQ
                clear hWQ hBQ
                go_wp2_with (first
                  | fail
                  | (go_at_call 89; refine (HWith.out _ HBQ.out).mono ?_; rintro e W6 ⟨ao6, cap6, rfl, hc6, hm6, hr6, hB6⟩; have g0 := ((bcell (HBQ.out.trans (hB6.mono HBQ.out.size))).1 (w.heap.size + 1) 0 hLw).trans HS.out.c0; have g1 := ((bcell (HBQ.out.trans (hB6.mono HBQ.out.size))).1 (w.heap.size + 1) 1 hLw).trans HS.out.c1; have g2 := ((bcell (HBQ.out.trans (hB6.mono HBQ.out.size))).1 (w.heap.size + 1) 2 hLw).trans HS.out.c2; have k0 := ((bcell (HBQ.out.trans (hB6.mono HBQ.out.size))).2 (w.heap.size + 1) 0 hLw).trans (HS.out.f0 0); have k1 := ((bcell (HBQ.out.trans (hB6.mono HBQ.out.size))).2 (w.heap.size + 1) 1 hLw).trans (HS.out.f0 1); have k2 := ((bcell (HBQ.out.trans (hB6.mono HBQ.out.size))).2 (w.heap.size + 1) 2 hLw).trans (HS.out.f0 2); have j0 := ((bcell hB6).1 W2.heap.size 0 hsQ).trans e0; have j1 := ((bcell hB6).1 W2.heap.size 1 hsQ).trans e1; have j2 := ((bcell hB6).1 W2.heap.size 2 hsQ).trans e2; have Hc6 := Lib.hid (And.intro hc6 hm6); have Hr6 := Lib.hid hr6; have HB6 := Lib.hid hB6; clear hc6 hm6 hr6 hB6))
                go_roundw
                case rel => exact ⟨k + 1, _, _, ao6, cap6, by go_num, rfl, HS.out.step hlt Hdr.out Hx.out H1.out H2.out H3.out HBQ.out HB6.out Hr6.out Hc6.out⟩
                case measure => simp [intOf]; omega
    · obtain rfl : k = recs.length := by omega
      have hp := HS.out.go
      rw [List.drop_length] at hp
      have hp2 : rrows recs = (out, 0) := by rw [hp]; rfl
      have Hp := Lib.hid hp2
      have Hl2 := Lib.hid HS.out.capLe
      clear hp hp2
      go_wp2_with fail
      go_ret2
      show RowsRet (rrows recs) w (.returned (.tuple #[.slice ao' out.length cap', .int .i64 0])) wr
      rw [Hp.out]
      exact ⟨ao', cap', rfl, Hl2.out.1, Hl2.out.2, HS.out.rd.mono (fun b hb _ => hb.1), HS.out.below⟩
end Go.Proofs.Ytlgnpogmgpgdaaa

namespace Go.Proofs.Ytlgnpogmgpgdaaa
set_option linter.unusedSimpArgs false
set_option linter.unusedVariables false
set_option maxRecDepth 100000
open Go.RowKit

def sameQ (n : Nat) (w : World) (i : Value) (wr : World) : Prop := ∃ k m : Nat, k ≤ n ∧ i = .int .i64 (k : Nat) ∧ wr = w.drewN m

set_option maxRecDepth 100000 in
set_option maxHeartbeats 1600000 in
theorem same04_any (l : List ArcD) (ao bo : Option Addr) (ca cb : Nat) (fa fb : Nat → Prop) (w : World) (hl : l.length ≤ 1073741824) (ha : RdS arcRep fa w ao l) (hb : RdS arcRep fb w bo l) :
    Calls Try.prog 28 #[.slice ao l.length ca, .slice bo l.length cb] w fun e w' => e = .returned (.bool true) ∧ ∃ m, w' = w.drewN m := by
  have hne : ((l.length : Int) != (l.length : Int)) = false := by simp
  have Ha := Lib.hid ha
  have Hb := Lib.hid hb
  clear ha hb
  go_enter Try.func28, Try.ntmps28
  go_wp2_with fail
  go_loopw [5, 13] (fun v i wr => sameQ l.length w i wr) (fun _ i _ => l.length - (intOf i).toNat)
  case atStart => exact ⟨0, 0, by omega, rfl, rfl⟩
  case round =>
    obtain ⟨k, m, hk, rfl, rfl⟩ := hrel
    by_cases hlt : k < l.length
    · obtain ⟨ba, oa, rfl, hba, hca, hca1, hv⟩ := Ha.out.arc k hlt
      obtain ⟨bb, ob, rfl, hbb, hcb, hcb1, _⟩ := Hb.out.arc k hlt
      have hir : (k : Int) < (l.length : Int) := by omega
      generalize l[k] = x at hca hca1 hcb hcb1 hv
      obtain ⟨x0, x1⟩ := x
      simp only at hca hca1 hcb hcb1
      have hx : ((x0 : Int) != x0) = false := by simp
      have hy : ((x1 : Int) != x1) = false := by simp
      go_wp2_with fail
      go_quiet (fail)
      go_wp2_with fail
      go_roundw
      case rel => exact ⟨k + 1, _, by omega, by go_num, rfl⟩
      case measure => simp [intOf]; omega
    · obtain rfl : k = l.length := by omega
      go_wp2_with fail
      go_ret
      exact ⟨rfl, _, rfl⟩

def same14I (n : Nat) (w : World) (i : Value) (wr : World) : Prop := ∃ k : Nat, k ≤ n ∧ i = .int .i64 (k : Nat) ∧ Below w.heap.size w wr

set_option maxRecDepth 100000 in
set_option maxHeartbeats 1600000 in
theorem same14_any (l : List RowD) (ao bo : Option Addr) (ca cb : Nat) (fa fb : Nat → Prop) (w : World) (hl : l.length ≤ 1073741824) (hall : ∀ p ∈ l, p.2.length ≤ 1073741824) (ha : RdS rowRep fa w ao l) (hb : RdS rowRep fb w bo l) :
    Calls Try.prog 25 #[.slice ao l.length ca, .slice bo l.length cb] w fun e w' => e = .returned (.bool true) ∧ Below w.heap.size w w' := by
  have hne : ((l.length : Int) != (l.length : Int)) = false := by simp
  have Ha := Lib.hid ha
  have Hb := Lib.hid hb
  have Hall := Lib.hid hall
  clear ha hb hall
  go_enter Try.func25, Try.ntmps25
  go_wp2_with fail
  go_loopw [5, 13] (fun v i wr => same14I l.length w i wr) (fun _ i _ => l.length - (intOf i).toNat)
  case atStart => exact ⟨0, by omega, rfl, Below.refl _ _⟩
  case round =>
    obtain ⟨k, hk, rfl, hB⟩ := hrel
    have HB := Lib.hid hB
    by_cases hlt : k < l.length
    · obtain ⟨ba, oa, pa, cpa, rfl, hba, hca, hca1, hv, _, _, hra⟩ := (Ha.out.ext hB).row k hlt
      obtain ⟨bb, ob, pb, cpb, rfl, hbb, hcb, hcb1, _, _, _, hrb⟩ := (Hb.out.ext hB).row k hlt
      have hir : (k : Int) < (l.length : Int) := by omega
      have hpl := Hall.out l[k] (List.getElem_mem hlt)
      generalize l[k] = p at hca hcb hv hca1 hcb1 hra hrb hpl
      have hx : ((p.1 : Int) != p.1) = false := by simp
      have Hra := Lib.hid hra
      have Hrb := Lib.hid hrb
      clear hra hrb hB
      go_wp2_with fail
      go_quiet ((go_at_call 28; exact Calls.quiet_of (same04_any p.2 pa pb cpa cpb fa fb _ hpl (Hra.out.ext (ext_drewN _ _)) (Hrb.out.ext (ext_drewN _ _)))))
      go_wp2_with fail
      go_roundw
      case rel => exact ⟨k + 1, by omega, by go_num, below_drewN HB.out _⟩
      case measure => simp [intOf]; omega
    · obtain rfl : k = l.length := by omega
      clear hB
      go_wp2_with fail
      go_ret
      exact ⟨rfl, HB.out⟩
end Go.Proofs.Ytlgnpogmgpgdaaa

namespace Go.Proofs.Ytlgnpogmgpgdaaa
set_option linter.unusedSimpArgs false
set_option linter.unusedVariables false
set_option maxRecDepth 100000
open Go.RowKit

theorem RdS.edgeM {fp : Nat → Prop} {w : World} {ao : Option Addr} {l : List EdgeD} (h : RdS edgeRep fp w ao l) (k : Nat) (hk : k < l.length) :
    ∃ b off, ao = some ⟨b, off, none⟩ ∧ b < w.heap.size ∧ w.cell? ⟨b, off + k * 3, none⟩ = some (.int .u32 (l[k].1 : Nat)) ∧ w.cell? ⟨b, off + k * 3 + 1, none⟩ = some (.int .u32 (l[k].2.1 : Nat)) ∧ w.cell? ⟨b, off + k * 3 + 2, none⟩ = some (.int .u32 (l[k].2.2 : Nat)) ∧ okE l[k] := by
  obtain ⟨b, off, cs, rfl, _, hb, ⟨c, d, rfl, ⟨rfl, h1⟩, c2, d2, rfl, ⟨rfl, h2⟩, ⟨rfl, h3⟩⟩, hc⟩ := h.at k hk
  exact ⟨b, off, rfl, hb, hc 0 (by decide), hc 1 (by decide), hc 2 (by decide), h1, h2, h3⟩
def keysM (l : List EdgeD) : List (List UInt8) := l.map (fun x => key3 x.1 x.2.1 x.2.2)
theorem keysM_take (l : List EdgeD) (k : Nat) (h : k < l.length) : (keysM l).take (k + 1) = (keysM l).take k ++ [key3 l[k].1 l[k].2.1 l[k].2.2] := by
  unfold keysM
  rw [List.take_succ_eq_append_getElem (by simpa using h), List.getElem_map]
def KeysRet (L : List (List UInt8)) (w : World) (e : Ending) (w' : World) : Prop :=
  ∃ ao cap, e = .returned (.slice ao L.length cap) ∧ L.length ≤ cap ∧ cap ≤ maxLen ∧ RdS (Rep.slice Rep.u8) (fun k => w.heap.size ≤ k) w' ao L ∧ Below w.heap.size w w'
def ksI (l : List EdgeD) (w : World) (o i : Value) (wr : World) : Prop :=
  ∃ (k : Nat) (ao : Option Addr) (cap : Nat) (g : Option Nat) (fe : Nat → Prop), k ≤ l.length ∧ i = .int .i64 (k : Nat) ∧ o = .slice ao k cap ∧ OwnS (Rep.slice Rep.u8) fe wr ao cap g 112 ((keysM l).take k) ∧
    (∀ b, fe b → w.heap.size ≤ b ∧ b < wr.heap.size ∧ g ≠ some b) ∧ (∀ b, g = some b → w.heap.size ≤ b) ∧ Below w.heap.size w wr
theorem rowsElem : Elem Try.prog 108 112 1 24 (.slice none 0 0) := Elem.mk' Try.underlying108 (by kernel_rfl) rfl (by decide)

set_option maxRecDepth 100000 in
set_option maxHeartbeats 1600000 in
theorem rkeys_any (l : List EdgeD) (ao : Option Addr) (cap : Nat) (fp : Nat → Prop) (w : World) (hl : l.length ≤ 100000) (hrd : RdS edgeRep fp w ao l) :
    Calls Try.prog 61 #[.slice ao l.length cap] w (KeysRet (keysM l) w) := by
  have hE := rowsElem
  have Hrd := Lib.hid hrd
  clear hrd
  go_enter Try.func61, Try.ntmps61
  go_wp2_with fail
  go_loopw [3, 8] (fun o i wr => ksI l w o i wr) (fun _ i _ => l.length - (intOf i).toNat)
  case atStart =>
    exact ⟨0, some ⟨w.heap.size, 0, none⟩, 0, some w.heap.size, fun _ => False, by omega, rfl, rfl, ⟨[], Own.emptyAt w _ _ _ rfl, .nil⟩, fun b h => h.elim, (fun b h => by cases h; omega), ext_alloc w _⟩
  case round =>
    obtain ⟨k, ao', cap', g, fe, hk, rfl, rfl, hO, hfe, hg, hB⟩ := hrel
    by_cases hlt : k < l.length
    · obtain ⟨bb, off, rfl, hbb, hc0, hc1, hc2, hok⟩ := (Hrd.out.ext hB).edgeM k hlt
      have hir : (k : Int) < (l.length : Int) := by omega
      have hst := keysM_take l k hlt
      have hkl : ((keysM l).take k).length = k := by simp [keysM]; omega
      generalize l[k] = x at hc0 hc1 hc2 hok hst
      obtain ⟨x0, x1, x2⟩ := x
      simp only at hc0 hc1 hc2 hst
      have HKy := Lib.hid (rkey_any x0 x1 x2 hok.1 hok.2.1 hok.2.2)
      obtain ⟨css, hown0, hall⟩ := hO
      rw [hkl] at hown0
      have hown : Own wr ao' cap' g 112 1 k css.flatten := hown0
      have Hown := Lib.hid hown
      have Hall := Lib.hid hall
      have Hst := Lib.hid hst
      have Hkl := Lib.hid hkl
      have Hfe := Lib.hid hfe
      have Hg := Lib.hid hg
      have HB := Lib.hid hB
      have hsB := hB.size
      have hglt := hown.lt
      have Hglt := Lib.hid hglt
      clear hown0 hown hall hst hkl hfe hg hB hok hglt
      go_wp2_with (first
        | (go_at_call 90; (with_reducible refine (HKy.out _).mono ?_); rintro e w2 ⟨a2, c2, g2, rfl, ho2, hg2, hB2⟩; have hs2 := hB2.size; have Ho2 := Lib.hid ho2; have Hg2 := Lib.hid hg2; have HB2 := Lib.hid hB2; clear ho2 hg2 hB2)
        | (at_builtin; refine wpList_app rfl (.tmp 11) (.tmp 17) 108 108 rfl hE ((Hown.out.ext HB2.out).alloc _) rfl rfl (srcOne Try.underlying108 _ _ _ _ rfl) (by simp [maxLen]; omega) (by omega) ?_; intro ao3 cap3 g3 W3 ho3 hg3 hon3; have Ho3 := Lib.hid ho3; have Hg3 := Lib.hid hg3; have Hon3 := Lib.hid hon3; clear ho3 hg3 hon3))
      have hon : Only (fun j => g = some j) w2 W3 := ((Only.refl (fun j => g = some j) w2).alloc _).trans Hon3.out (fun _ _ h => h)
      have hs3 := hon.size
      have hg3' : ∀ b, g3 = some b → g = some b ∨ w2.heap.size ≤ b := fun b h => by
        rcases Hg3.out with e | e <;> rw [e] at h
        · exact .inl h
        · have h := Option.some.inj h; right; simp at h; omega
      have hg2l := Ho2.out.lt
      go_roundw
      case rel =>
        refine ⟨k + 1, ao3, cap3, g3, fun b => fe b ∨ g2 = some b, by omega, by go_num, rfl, ?_, fun b hb => ?_, fun b hb => ?_, ?_⟩
        · rw [Hst.out]
          refine OwnS.snoc (w := wr) (forall2_imp (fun x cs h => (Rep.slice Rep.u8).mono h (fun b hb _ => .inl hb)) Hall.out) (cs := [.slice a2 12 c2]) ⟨a2, c2, rfl, Ho2.out.capLe.1, Ho2.out.capLe.2, ?_⟩ (by rw [Hkl.out]; exact Ho3.out) (fun b hb hl => ?_) (by omega)
          · refine ((rdS_u8 (l := key3 x0 x1 x2) Ho2.out).only hon (fun b hb _ e => ?_)).mono (fun b hb _ => .inr hb)
            have := Hg2.out b hb; have := Hglt.out b e; omega
          · rcases hb with hb | hb
            · exact (hon.same b (by omega) (Hfe.out b hb).2.2).trans (HB2.out.block b hl)
            · have := Hg2.out b hb; omega
        · rcases hb with hb | hb
          · refine ⟨(Hfe.out b hb).1, by have := (Hfe.out b hb).2.1; omega, fun e => ?_⟩
            rcases hg3' b e with h | h
            · exact (Hfe.out b hb).2.2 h
            · have := (Hfe.out b hb).2.1; omega
          · have h1 := Hg2.out b hb
            have h2 := hg2l b hb
            refine ⟨by omega, by omega, fun e => ?_⟩
            rcases hg3' b e with h | h
            · have := Hglt.out b h; omega
            · omega
        · rcases hg3' b hb with h | h
          · exact Hg.out b h
          · omega
        · exact (HB.out.trans (HB2.out.mono hsB)).trans (hon.below (by omega) (fun j hj e => by have := Hg.out j e; omega))
      case measure => simp [intOf]; omega
    · obtain rfl : k = l.length := by omega
      have hlen : (keysM l).length = l.length := by simp [keysM]
      have e : (keysM l).take l.length = keysM l := by rw [← hlen, List.take_length]
      rw [e] at hO
      have HO := Lib.hid hO
      have HB := Lib.hid hB
      have Hl := Lib.hid hlen
      clear hO hB hlen e
      go_wp2_with fail
      go_ret
      exact ⟨ao', cap', by simp [Hl.out], HO.out.capLe.1, HO.out.capLe.2, HO.out.rd.mono (fun b hb _ => hb.elim (fun h => (hfe b h).1) (hg b)), HB.out⟩

def insR (x : EdgeD) (out : List EdgeD) : List EdgeD := out.takeWhile (fun e => !belowE x e) ++ [x] ++ out.dropWhile (fun e => !belowE x e)
def sortR (l : List EdgeD) : List EdgeD := l.foldl (fun out x => insR x out) []
theorem insR_len (x : EdgeD) (out : List EdgeD) : (insR x out).length = out.length + 1 := by
  unfold insR
  have := congrArg List.length (List.takeWhile_append_dropWhile (p := fun e => !belowE x e) (l := out))
  simp only [List.length_append, List.length_singleton] at this ⊢
  omega
theorem sortR_take (l : List EdgeD) (k : Nat) (h : k < l.length) : sortR (l.take (k + 1)) = insR l[k] (sortR (l.take k)) := by
  unfold sortR
  rw [List.take_succ_eq_append_getElem h, List.foldl_append]
  rfl
theorem sortR_len : ∀ (l : List EdgeD), (sortR l).length = l.length := by
  intro l
  have h : ∀ (l : List EdgeD) (out : List EdgeD), (l.foldl (fun out x => insR x out) out).length = out.length + l.length := by
    intro l
    induction l with
    | nil => intro out; rfl
    | cons x l ih => intro out; rw [List.foldl_cons, ih, insR_len, List.length_cons]; omega
  have := h l []
  simpa [sortR] using this
theorem take_while_take {α : Type} (p : α → Bool) (l : List α) : l.takeWhile p = l.take (l.takeWhile p).length ∧ l.dropWhile p = l.drop (l.takeWhile p).length := by
  induction l with
  | nil => exact ⟨rfl, rfl⟩
  | cons x l ih =>
    by_cases h : p x = true
    · rw [List.takeWhile_cons_of_pos h, List.dropWhile_cons_of_pos h]
      exact ⟨by rw [List.length_cons, List.take_succ_cons, ← ih.1], by rw [List.length_cons, List.drop_succ_cons]; exact ih.2⟩
    · rw [List.takeWhile_cons_of_neg h, List.dropWhile_cons_of_neg h]
      exact ⟨rfl, rfl⟩
theorem insR_eq (x : EdgeD) (out : List EdgeD) : insR x out = out.take (out.takeWhile (fun e => !belowE x e)).length ++ [x] ++ out.drop (out.takeWhile (fun e => !belowE x e)).length := by
  obtain ⟨t1, t2⟩ := take_while_take (fun e => !belowE x e) out
  unfold insR
  rw [t2, ← t1]
theorem take_while_at {α : Type} (p : α → Bool) (l : List α) : (∀ j (h : j < l.length), j < (l.takeWhile p).length → p l[j] = true) ∧ (∀ (h : (l.takeWhile p).length < l.length), p (l[(l.takeWhile p).length]) = false) ∧ (l.takeWhile p).length ≤ l.length := by
  induction l with
  | nil => exact ⟨fun j h => by simp at h, fun h => by simp at h, by simp⟩
  | cons x l ih =>
    by_cases h : p x = true
    · rw [List.takeWhile_cons_of_pos h]
      refine ⟨fun j hj hl => ?_, fun hl => ?_, by have := ih.2.2; simp; omega⟩
      · cases j with
        | zero => exact h
        | succ j => simp at hj hl ⊢; exact ih.1 j hj hl
      · simp at hl ⊢; exact ih.2.1 hl
    · rw [List.takeWhile_cons_of_neg h]
      exact ⟨fun j hj hl => by simp at hl, fun hl => by simpa using h, by simp⟩
def EdgesRet (L : List EdgeD) (w : World) (e : Ending) (w' : World) : Prop :=
  ∃ ao cap, e = .returned (.slice ao L.length cap) ∧ L.length ≤ cap ∧ cap ≤ maxLen ∧ RdS edgeRep (fun k => w.heap.size ≤ k) w' ao L ∧ Below w.heap.size w w'
theorem oneEdge : OneC edgeRep := OneC.prod (OneC.nat _ _) (OneC.prod (OneC.nat _ _) (OneC.nat _ _))
def stI (l : List EdgeD) (w : World) (o i : Value) (wr : World) : Prop :=
  ∃ (k b cap : Nat), k ≤ l.length ∧ i = .int .i64 (k : Nat) ∧ o = .slice (some ⟨b, 0, none⟩) k cap ∧ k ≤ cap ∧ cap ≤ maxLen ∧ RdS edgeRep (fun k => w.heap.size ≤ k) wr (some ⟨b, 0, none⟩) (sortR (l.take k)) ∧ Below w.heap.size w wr
def atI (n : Nat) (w : World) (i : Value) (wr : World) : Prop := ∃ j : Nat, j ≤ n ∧ i = .int .i64 (j : Nat) ∧ Below w.heap.size w wr

set_option maxRecDepth 100000 in
set_option maxHeartbeats 3200000 in
theorem rsorted_any (l : List EdgeD) (ao : Option Addr) (cap : Nat) (fp : Nat → Prop) (w : World) (hl : l.length ≤ 100000) (hrd : RdS edgeRep fp w ao l) :
    Calls Try.prog 62 #[.slice ao l.length cap] w (EdgesRet (sortR l) w) := by
  have hE := edgeElem
  have Hrd := Lib.hid hrd
  clear hrd
  go_enter Try.func62, Try.ntmps62
  go_wp2_with fail
  go_loopw [3, 10] (fun o i wr => stI l w o i wr) (fun _ i _ => l.length - (intOf i).toNat)
  case atStart => exact ⟨0, w.heap.size, 0, by omega, rfl, rfl, by omega, by simp [maxLen], .inl rfl, ext_alloc w _⟩
  case round =>
    obtain ⟨k, b, cap', hk, rfl, rfl, hc1, hc2, hO, hB⟩ := hrel
    by_cases hlt : k < l.length
    · obtain ⟨bb, off, rfl, hbb, lc0, lc1, lc2, hok⟩ := (Hrd.out.ext hB).edgeM k hlt
      have hir : (k : Int) < (l.length : Int) := by omega
      have hst := sortR_take l k hlt
      have hkl : (sortR (l.take k)).length = k := by rw [sortR_len]; simp; omega
      generalize l[k] = x at lc0 lc1 lc2 hok hst
      generalize hout : sortR (l.take k) = out at hO hst hkl
      obtain ⟨t3, t4, t5⟩ := take_while_at (fun e => !belowE x e) out
      rw [insR_eq] at hst
      generalize (out.takeWhile (fun e => !belowE x e)).length = n at hst t3 t4 t5
      obtain ⟨x0, x1, x2⟩ := x
      simp only at lc0 lc1 lc2
      have hkn : n ≤ k := by omega
      have Hst := Lib.hid hst
      have Hkl := Lib.hid hkl
      have HO := Lib.hid hO
      have HB := Lib.hid hB
      have T3 := Lib.hid t3
      have T4 := Lib.hid t4
      have Hok := Lib.hid hok
      clear hst hkl hO hB t3 t4 t5 hout hok
      go_wp2_with fail
      rename World => wo
      go_loopw [5] (fun i wi => atI n wo i wi) (fun i _ => n - (intOf i).toNat)
      case atStart => exact ⟨0, by omega, rfl, Below.refl _ _⟩
      case round =>
        obtain ⟨q, hj, rfl, hBi⟩ := hrel
        by_cases hqn : q < n
        · have hbel : belowE (x0, x1, x2) (out[q]'(by have := Hkl.out; omega)) = false := by simpa using T3.out q (by have := Hkl.out; omega) hqn
          obtain ⟨b', off', hab, hbo, n0, n1, n2, hoke⟩ := (HO.out.ext hBi).edgeM q (by have := Hkl.out; omega)
          cases hab
          obtain ⟨⟨e0, e1, e2⟩, he⟩ : ∃ e, out[q]'(by have := Hkl.out; omega) = e := ⟨_, rfl⟩
          rw [he] at n0 n1 n2 hbel
          simp only [Nat.zero_add] at n0 n1 n2
          have hBl := ebelow_any (x0, x1, x2) (e0, e1, e2)
          simp only [edgeV] at hBl
          rw [hbel] at hBl
          have HBl := Lib.hid hBl
          have m0 := ((bcell hBi).1 bb _ hbb).trans lc0
          have m1 := ((bcell hBi).1 bb _ hbb).trans lc1
          have m2 := ((bcell hBi).1 bb _ hbb).trans lc2
          have hbi : bb < wr.heap.size := Nat.lt_of_lt_of_le hbb hBi.size
          have HBi := Lib.hid hBi
          have hqk : decide ((q : Int) < (k : Int)) = true := decide_eq_true (by omega)
          have hqk2 : (q : Int) < (k : Int) := by omega
          have hq0 : (0 : Int) ≤ (q : Int) := by omega
          have hk0 : (0 : Int) ≤ (k : Int) := by omega
          clear hbel he hBl hoke hBi
          go_wp2_with fail
          go_region_held3 (fun w' => w'.cell? ⟨bb, off + k * 3, none⟩ = some (.int .u32 (x0 : Nat)) ∧ w'.cell? ⟨bb, off + k * 3 + 1, none⟩ = some (.int .u32 (x1 : Nat)) ∧ w'.cell? ⟨bb, off + k * 3 + 2, none⟩ = some (.int .u32 (x2 : Nat)) ∧ w'.cell? ⟨b, q * 3, none⟩ = some (.int .u32 (e0 : Nat)) ∧ w'.cell? ⟨b, q * 3 + 1, none⟩ = some (.int .u32 (e1 : Nat)) ∧ w'.cell? ⟨b, q * 3 + 2, none⟩ = some (.int .u32 (e2 : Nat)))
            (first | exact ⟨m0, m1, m2, n0, n1, n2⟩ | exact HP.out)
            (first
              | (go_at_call 88; refine (HBl.out _).mono ?_; rintro e w6 ⟨rfl, hB6⟩; have hB6' : Below wr.heap.size wr w6 := (ext_drew wr).trans hB6; have HP := Lib.hid (And.intro (((bcell hB6').1 bb _ hbi).trans m0) (And.intro (((bcell hB6').1 bb _ hbi).trans m1) (And.intro (((bcell hB6').1 bb _ hbi).trans m2) (And.intro (((bcell hB6').1 b _ hbo).trans n0) (And.intro (((bcell hB6').1 b _ hbo).trans n1) (((bcell hB6').1 b _ hbo).trans n2)))))); have HB6 := Lib.hid (HBi.out.trans (hB6'.mono HBi.out.size)); clear hB6 hB6')
              | fail "no arm")
          go_wp2_with fail
          go_roundw
          case rel => exact ⟨q + 1, by omega, by go_num, HB6.out⟩
          case measure => simp [intOf]; omega
        · obtain rfl : q = n := by omega
          by_cases hqk' : q < k
          · have hbel : belowE (x0, x1, x2) (out[q]'(by have := Hkl.out; omega)) = true := by simpa using T4.out (by have := Hkl.out; omega)
            have hcq1 : (q : Int) < (cap' : Int) := by omega
            obtain ⟨b', off', hab, hbo, n0, n1, n2, hoke⟩ := (HO.out.ext hBi).edgeM q (by have := Hkl.out; omega)
            cases hab
            obtain ⟨⟨e0, e1, e2⟩, he⟩ : ∃ e, out[q]'(by have := Hkl.out; omega) = e := ⟨_, rfl⟩
            rw [he] at n0 n1 n2 hbel
            simp only [Nat.zero_add] at n0 n1 n2
            have hBl := ebelow_any (x0, x1, x2) (e0, e1, e2)
            simp only [edgeV] at hBl
            rw [hbel] at hBl
            have HBl := Lib.hid hBl
            have m0 := ((bcell hBi).1 bb _ hbb).trans lc0
            have m1 := ((bcell hBi).1 bb _ hbb).trans lc1
            have m2 := ((bcell hBi).1 bb _ hbb).trans lc2
            have hbi : bb < wr.heap.size := Nat.lt_of_lt_of_le hbb hBi.size
            have HBi := Lib.hid hBi
            have hqk : decide ((q : Int) < (k : Int)) = true := decide_eq_true (by omega)
            have hqk2 : (q : Int) < (k : Int) := by omega
            have hq0 : (0 : Int) ≤ (q : Int) := by omega
            have hk0 : (0 : Int) ≤ (k : Int) := by omega
            clear hbel he hBl hoke hBi
            go_wp2_with fail
            go_region_held3 (fun w' => w'.cell? ⟨bb, off + k * 3, none⟩ = some (.int .u32 (x0 : Nat)) ∧ w'.cell? ⟨bb, off + k * 3 + 1, none⟩ = some (.int .u32 (x1 : Nat)) ∧ w'.cell? ⟨bb, off + k * 3 + 2, none⟩ = some (.int .u32 (x2 : Nat)) ∧ w'.cell? ⟨b, q * 3, none⟩ = some (.int .u32 (e0 : Nat)) ∧ w'.cell? ⟨b, q * 3 + 1, none⟩ = some (.int .u32 (e1 : Nat)) ∧ w'.cell? ⟨b, q * 3 + 2, none⟩ = some (.int .u32 (e2 : Nat)))
              (first | exact ⟨m0, m1, m2, n0, n1, n2⟩ | exact HP.out)
              (first
                | (go_at_call 88; refine (HBl.out _).mono ?_; rintro e w6 ⟨rfl, hB6⟩; have hB6' : Below wr.heap.size wr w6 := (ext_drew wr).trans hB6; have HP := Lib.hid (And.intro (((bcell hB6').1 bb _ hbi).trans m0) (And.intro (((bcell hB6').1 bb _ hbi).trans m1) (And.intro (((bcell hB6').1 bb _ hbi).trans m2) (And.intro (((bcell hB6').1 b _ hbo).trans n0) (And.intro (((bcell hB6').1 b _ hbo).trans n1) (((bcell hB6').1 b _ hbo).trans n2)))))); have HB6 := Lib.hid (HBi.out.trans (hB6'.mono HBi.out.size)); clear hB6 hB6')
                | fail "no arm")
            have hdr := HO.out.drop q
            rw [Nat.zero_add] at hdr
            have hdr2 : RdS edgeRep _ _ (some ⟨b, q * 3, none⟩) (out.drop q) := hdr
            obtain ⟨css2, hall2, hsrc2⟩ := hdr2.srcAll oneEdge (P := Try.prog) (tx := 46) Try.underlying46
            have hl2 : (out.drop q).length = k - q := by have := Hkl.out; rw [List.length_drop]; omega
            rw [hl2] at hsrc2
            have Hsrc2 := Lib.hid hsrc2
            have Hall2 := Lib.hid hall2
            clear hall2 hsrc2 hl2 hdr hdr2
            obtain ⟨css1, hall1, hsrc1⟩ := (HO.out.take q).srcAll oneEdge (P := Try.prog) (tx := 46) Try.underlying46
            have hl1 : (out.take q).length = q := by have := Hkl.out; rw [List.length_take]; omega
            rw [hl1] at hsrc1
            have Hsrc1 := Lib.hid hsrc1
            have Hall1 := Lib.hid hall1
            have hsW := HB6.out.size
            try have hqc : (q : Int) ≤ (cap' : Int) := by omega
            have hqk3 : (q : Int) ≤ (k : Int) := by omega
            try have hkc : (k : Int) ≤ (cap' : Int) := by omega
            have hkc2 : (k : Int) ≤ (l.length : Int) := by omega
            clear hall1 hsrc1 hl1
            go_wp2_with (first
              | (at_builtin; refine wpList_app rfl (.tmp 31) (.tmp 34) 46 46 rfl hE (Own.emptyAt _ 56 3 _ (by simp)) rfl rfl (Hsrc1.out _ (HB6.out.alloc hsW _) _) (by simp [maxLen]; omega) (by omega) ?_; intro ao7 cap7 g7 w7 ho7 hg7 hon7; rw [Nat.zero_add, List.nil_append] at ho7; have hB7 := (ext_alloc w6 _).trans (hon7.below (by simp) (fun j hj e => by have := Option.some.inj e; omega)); have hB7o := HB6.out.trans (hB7.mono hsW); have r0 := ((bcell hB7o).1 bb _ hbb).trans lc0; have r1 := ((bcell hB7o).1 bb _ hbb).trans lc1; have r2 := ((bcell hB7o).1 bb _ hbb).trans lc2; have hg7n : ∀ j, g7 = some j → w6.heap.size ≤ j := (fun j h => by rcases hg7 with e | e <;> rw [e] at h <;> have h := Option.some.inj h <;> first | omega | (simp at h; omega)); have Hg7 := Lib.hid hg7n; have Ho7 := Lib.hid ho7; have HB7 := Lib.hid hB7o; have hs7 := hB7.size; clear ho7 hg7 hon7 hB7 hB7o hg7n)
              | (at_builtin; refine wpList_app rfl (.tmp 36) (.tmp 41) 46 46 rfl hE (Ho7.out.alloc _) rfl rfl (srcManyE Try.underlying46 _ [_, _, _] _ _ 3 _ (by simp) rfl (by simp [Value.oneCell'])) (by simp [maxLen]; omega) (by omega) ?_; intro ao8 cap8 g8 w8 ho8 hg8 hon8; have hB8 : Below w6.heap.size w7 w8 := ((ext_alloc w7 _).mono hs7).trans (hon8.below (by simp; omega) (fun j hj e => by have := Hg7.out j e; omega)); have hg8n : ∀ j, g8 = some j → w6.heap.size ≤ j := (fun j h => by rcases hg8 with e | e <;> rw [e] at h <;> first | exact Hg7.out j h | (have h := Option.some.inj h; first | omega | (simp at h; omega))); have Hg8 := Lib.hid hg8n; have Ho8 := Lib.hid ho8; have HB8 := Lib.hid (HB7.out.trans (hB8.mono hsW)); have hs8 := hB8.size; clear ho8 hg8 hon8 hB8 hg8n)
              | (at_builtin; refine wpList_app rfl (.tmp 43) (.tmp 46) 46 46 rfl hE Ho8.out rfl rfl (Hsrc2.out _ HB8.out _) (by simp [maxLen]; omega) (by first | omega | (simp; omega)) ?_; intro ao9 cap9 g9 w9 ho9 hg9 hon9; have hB9 : Below w6.heap.size w8 w9 := hon9.below (by omega) (fun j hj e => by have := Hg8.out j e; omega); have hg9n : ∀ j, g9 = some j → w6.heap.size ≤ j := (fun j h => by rcases hg9 with e | e <;> rw [e] at h <;> first | exact Hg8.out j h | (have h := Option.some.inj h; first | omega | (simp at h; omega))); have Hg9 := Lib.hid hg9n; have Ho9 := Lib.hid ho9; have HB9 := Lib.hid (HB8.out.trans (hB9.mono hsW)); clear ho9 hg9 hon9 hB9 hg9n))
            go_roundw
            case rel =>
              have ho9 := Ho9.out
              obtain ⟨b9, hgb, rfl, hb9⟩ := ho9.pos (by omega)
              have hcl := ho9.capLe
              have hlen : (sortR (l.take (k + 1))).length = k + 1 := by rw [sortR_len]; simp; omega
              have hsW := HB6.out.size
              refine ⟨k + 1, b9, cap9, by omega, by go_num, by congr 1; first | omega | (have := Hqke.out; omega), by first | omega | (have := Hqke.out; omega), hcl.2, ?_, HB.out.trans (HB9.out.mono HB.out.size)⟩
              rw [Hst.out]
              have hA1 := all2_mono (fp' := fun k => w.heap.size ≤ k) Hall1.out (fun b _ hl => HB9.out.block b hl) HB9.out.size (fun _ h => h)
              have hA2 := all2_mono (fp' := fun k => w.heap.size ≤ k) Hall2.out (fun b _ hl => HB9.out.block b hl) HB9.out.size (fun _ h => h)
              have hlr : (out.take q ++ [(x0, x1, x2)] ++ out.drop q).length = q + 1 + (k - q) := by have := Hkl.out; simp; first | omega | (have := Hqke.out; omega)
              have hJ : OwnS edgeRep (fun k => w.heap.size ≤ k) w9 (some ⟨b9, 0, none⟩) cap9 g9 56 (out.take q ++ [(x0, x1, x2)] ++ out.drop q) := ⟨css1 ++ [edgeCs (x0, x1, x2)] ++ css2, by rw [hlr]; simpa [edgeCs] using (show Own w9 (some ⟨b9, 0, none⟩) cap9 g9 56 edgeRep.size (q + 1 + (k - q)) _ from ho9), all2_append (all2_append hA1 (.cons (edgeRep_ok Hok.out) .nil)) hA2⟩
              exact hJ.rd.mono (fun b h _ => h.elim id (fun h => by have := Hg9.out b h; have := HB.out.size; omega))
            case measure => simp [intOf]; omega
          · have hqk : decide ((q : Int) < (k : Int)) = false := decide_eq_false (by omega)
            have hqke : q = k := by omega
            have hq0 : (0 : Int) ≤ (q : Int) := by omega
            have hk0 : (0 : Int) ≤ (k : Int) := by omega
            have hqkN : decide (q < k) = false := decide_eq_false (by omega)
            have Hqke := Lib.hid hqke
            have Hqk' := Lib.hid hqk'
            clear hqke hqk'
            have HBi := Lib.hid hBi
            clear hBi
            by_cases hcc : cap' = q
            · have hcc' : q = cap' := hcc.symm
              subst hcc'
              have hkc : (k : Int) ≤ (q : Int) := by have := Hqke.out; omega
              go_wp2_with fail
              go_quiet (fail)
              obtain ⟨wq, hwq⟩ : ∃ z, wr.drewN nq = z := ⟨_, rfl⟩
              have HBq := Lib.hid (show Below wo.heap.size wo wq by rw [← hwq]; exact below_drewN HBi.out _)
              rw [hwq]
              clear hwq hcc
              obtain ⟨css2, hall2, hsrc2⟩ := (RdS.nil edgeRep (fun k => w.heap.size ≤ k) wo (some ⟨b, 0, none⟩)).srcAll oneEdge (P := Try.prog) (tx := 46) Try.underlying46
              have Hsrc2 := Lib.hid (fun W' h => hsrc2 W' h 0)
              have hde : out.drop q = [] := List.drop_eq_nil_of_le (by have := Hkl.out; omega)
              rw [← hde] at hall2
              have Hall2 := Lib.hid hall2
              clear hall2 hsrc2 hde
              obtain ⟨css1, hall1, hsrc1⟩ := (HO.out.take q).srcAll oneEdge (P := Try.prog) (tx := 46) Try.underlying46
              have hl1 : (out.take q).length = q := by have := Hkl.out; rw [List.length_take]; omega
              rw [hl1] at hsrc1
              have Hsrc1 := Lib.hid hsrc1
              have Hall1 := Lib.hid hall1
              have hsW := HBq.out.size
              try have hqc : (q : Int) ≤ (cap' : Int) := by omega
              have hqk3 : (q : Int) ≤ (k : Int) := by omega
              try have hkc : (k : Int) ≤ (cap' : Int) := by omega
              have hkc2 : (k : Int) ≤ (l.length : Int) := by omega
              clear hall1 hsrc1 hl1
              go_wp2_with (first
                | (at_builtin; refine wpList_app rfl (.tmp 31) (.tmp 34) 46 46 rfl hE (Own.emptyAt _ 56 3 _ (by simp)) rfl rfl (Hsrc1.out _ (HBq.out.alloc hsW _) _) (by simp [maxLen]; omega) (by omega) ?_; intro ao7 cap7 g7 w7 ho7 hg7 hon7; rw [Nat.zero_add, List.nil_append] at ho7; have hB7 := (ext_alloc wq _).trans (hon7.below (by simp) (fun j hj e => by have := Option.some.inj e; omega)); have hB7o := HBq.out.trans (hB7.mono hsW); have r0 := ((bcell hB7o).1 bb _ hbb).trans lc0; have r1 := ((bcell hB7o).1 bb _ hbb).trans lc1; have r2 := ((bcell hB7o).1 bb _ hbb).trans lc2; have hg7n : ∀ j, g7 = some j → wq.heap.size ≤ j := (fun j h => by rcases hg7 with e | e <;> rw [e] at h <;> have h := Option.some.inj h <;> first | omega | (simp at h; omega)); have Hg7 := Lib.hid hg7n; have Ho7 := Lib.hid ho7; have HB7 := Lib.hid hB7o; have hs7 := hB7.size; clear ho7 hg7 hon7 hB7 hB7o hg7n)
                | (at_builtin; refine wpList_app rfl (.tmp 36) (.tmp 41) 46 46 rfl hE (Ho7.out.alloc _) rfl rfl (srcManyE Try.underlying46 _ [_, _, _] _ _ 3 _ (by simp) rfl (by simp [Value.oneCell'])) (by simp [maxLen]; omega) (by omega) ?_; intro ao8 cap8 g8 w8 ho8 hg8 hon8; have hB8 : Below wq.heap.size w7 w8 := ((ext_alloc w7 _).mono hs7).trans (hon8.below (by simp; omega) (fun j hj e => by have := Hg7.out j e; omega)); have hg8n : ∀ j, g8 = some j → wq.heap.size ≤ j := (fun j h => by rcases hg8 with e | e <;> rw [e] at h <;> first | exact Hg7.out j h | (have h := Option.some.inj h; first | omega | (simp at h; omega))); have Hg8 := Lib.hid hg8n; have Ho8 := Lib.hid ho8; have HB8 := Lib.hid (HB7.out.trans (hB8.mono hsW)); have hs8 := hB8.size; clear ho8 hg8 hon8 hB8 hg8n)
                | (at_builtin; refine wpList_app rfl (.tmp 43) (.tmp 46) 46 46 rfl hE Ho8.out rfl rfl (Hsrc2.out _ HB8.out) (by simp [maxLen]; omega) (by first | omega | (simp; omega)) ?_; intro ao9 cap9 g9 w9 ho9 hg9 hon9; have hB9 : Below wq.heap.size w8 w9 := hon9.below (by omega) (fun j hj e => by have := Hg8.out j e; omega); have hg9n : ∀ j, g9 = some j → wq.heap.size ≤ j := (fun j h => by rcases hg9 with e | e <;> rw [e] at h <;> first | exact Hg8.out j h | (have h := Option.some.inj h; first | omega | (simp at h; omega))); have Hg9 := Lib.hid hg9n; have Ho9 := Lib.hid ho9; have HB9 := Lib.hid (HB8.out.trans (hB9.mono hsW)); clear ho9 hg9 hon9 hB9 hg9n))
              go_roundw
              case rel =>
                have ho9 := Ho9.out
                obtain ⟨b9, hgb, rfl, hb9⟩ := ho9.pos (by omega)
                have hcl := ho9.capLe
                have hlen : (sortR (l.take (k + 1))).length = k + 1 := by rw [sortR_len]; simp; omega
                have hsW := HBq.out.size
                refine ⟨k + 1, b9, cap9, by omega, by go_num, by congr 1; first | omega | (have := Hqke.out; omega), by first | omega | (have := Hqke.out; omega), hcl.2, ?_, HB.out.trans (HB9.out.mono HB.out.size)⟩
                rw [Hst.out]
                have hA1 := all2_mono (fp' := fun k => w.heap.size ≤ k) Hall1.out (fun b _ hl => HB9.out.block b hl) HB9.out.size (fun _ h => h)
                have hA2 := all2_mono (fp' := fun k => w.heap.size ≤ k) Hall2.out (fun b _ hl => HB9.out.block b hl) HB9.out.size (fun _ h => h)
                have hlr : (out.take q ++ [(x0, x1, x2)] ++ out.drop q).length = q + 1 + 0 := by have := Hkl.out; simp; first | omega | (have := Hqke.out; omega)
                have hJ : OwnS edgeRep (fun k => w.heap.size ≤ k) w9 (some ⟨b9, 0, none⟩) cap9 g9 56 (out.take q ++ [(x0, x1, x2)] ++ out.drop q) := ⟨css1 ++ [edgeCs (x0, x1, x2)] ++ css2, by rw [hlr]; simpa [edgeCs] using (show Own w9 (some ⟨b9, 0, none⟩) cap9 g9 56 edgeRep.size (q + 1 + 0) _ from ho9), all2_append (all2_append hA1 (.cons (edgeRep_ok Hok.out) .nil)) hA2⟩
                exact hJ.rd.mono (fun b h _ => h.elim id (fun h => by have := Hg9.out b h; have := HB.out.size; omega))
              case measure => simp [intOf]; omega
            · have hcq1 : (q : Int) < (cap' : Int) := by have := Hqke.out; omega
              go_wp2_with fail
              go_quiet (fail)
              obtain ⟨wq, hwq⟩ : ∃ z, wr.drewN nq = z := ⟨_, rfl⟩
              have HBq := Lib.hid (show Below wo.heap.size wo wq by rw [← hwq]; exact below_drewN HBi.out _)
              rw [hwq]
              clear hwq
              have hdr := HO.out.drop q
              rw [Nat.zero_add] at hdr
              have hdr2 : RdS edgeRep _ _ (some ⟨b, q * 3, none⟩) (out.drop q) := hdr
              obtain ⟨css2, hall2, hsrc2⟩ := hdr2.srcAll oneEdge (P := Try.prog) (tx := 46) Try.underlying46
              have hl2 : (out.drop q).length = k - q := by have := Hkl.out; rw [List.length_drop]; omega
              rw [hl2] at hsrc2
              have Hsrc2 := Lib.hid hsrc2
              have Hall2 := Lib.hid hall2
              clear hall2 hsrc2 hl2 hdr hdr2
              obtain ⟨css1, hall1, hsrc1⟩ := (HO.out.take q).srcAll oneEdge (P := Try.prog) (tx := 46) Try.underlying46
              have hl1 : (out.take q).length = q := by have := Hkl.out; rw [List.length_take]; omega
              rw [hl1] at hsrc1
              have Hsrc1 := Lib.hid hsrc1
              have Hall1 := Lib.hid hall1
              have hsW := HBq.out.size
              try have hqc : (q : Int) ≤ (cap' : Int) := by omega
              have hqk3 : (q : Int) ≤ (k : Int) := by omega
              try have hkc : (k : Int) ≤ (cap' : Int) := by omega
              have hkc2 : (k : Int) ≤ (l.length : Int) := by omega
              clear hall1 hsrc1 hl1
              go_wp2_with (first
                | (at_builtin; refine wpList_app rfl (.tmp 31) (.tmp 34) 46 46 rfl hE (Own.emptyAt _ 56 3 _ (by simp)) rfl rfl (Hsrc1.out _ (HBq.out.alloc hsW _) _) (by simp [maxLen]; omega) (by omega) ?_; intro ao7 cap7 g7 w7 ho7 hg7 hon7; rw [Nat.zero_add, List.nil_append] at ho7; have hB7 := (ext_alloc wq _).trans (hon7.below (by simp) (fun j hj e => by have := Option.some.inj e; omega)); have hB7o := HBq.out.trans (hB7.mono hsW); have r0 := ((bcell hB7o).1 bb _ hbb).trans lc0; have r1 := ((bcell hB7o).1 bb _ hbb).trans lc1; have r2 := ((bcell hB7o).1 bb _ hbb).trans lc2; have hg7n : ∀ j, g7 = some j → wq.heap.size ≤ j := (fun j h => by rcases hg7 with e | e <;> rw [e] at h <;> have h := Option.some.inj h <;> first | omega | (simp at h; omega)); have Hg7 := Lib.hid hg7n; have Ho7 := Lib.hid ho7; have HB7 := Lib.hid hB7o; have hs7 := hB7.size; clear ho7 hg7 hon7 hB7 hB7o hg7n)
                | (at_builtin; refine wpList_app rfl (.tmp 36) (.tmp 41) 46 46 rfl hE (Ho7.out.alloc _) rfl rfl (srcManyE Try.underlying46 _ [_, _, _] _ _ 3 _ (by simp) rfl (by simp [Value.oneCell'])) (by simp [maxLen]; omega) (by omega) ?_; intro ao8 cap8 g8 w8 ho8 hg8 hon8; have hB8 : Below wq.heap.size w7 w8 := ((ext_alloc w7 _).mono hs7).trans (hon8.below (by simp; omega) (fun j hj e => by have := Hg7.out j e; omega)); have hg8n : ∀ j, g8 = some j → wq.heap.size ≤ j := (fun j h => by rcases hg8 with e | e <;> rw [e] at h <;> first | exact Hg7.out j h | (have h := Option.some.inj h; first | omega | (simp at h; omega))); have Hg8 := Lib.hid hg8n; have Ho8 := Lib.hid ho8; have HB8 := Lib.hid (HB7.out.trans (hB8.mono hsW)); have hs8 := hB8.size; clear ho8 hg8 hon8 hB8 hg8n)
                | (at_builtin; refine wpList_app rfl (.tmp 43) (.tmp 46) 46 46 rfl hE Ho8.out rfl rfl (Hsrc2.out _ HB8.out _) (by simp [maxLen]; omega) (by first | omega | (simp; omega)) ?_; intro ao9 cap9 g9 w9 ho9 hg9 hon9; have hB9 : Below wq.heap.size w8 w9 := hon9.below (by omega) (fun j hj e => by have := Hg8.out j e; omega); have hg9n : ∀ j, g9 = some j → wq.heap.size ≤ j := (fun j h => by rcases hg9 with e | e <;> rw [e] at h <;> first | exact Hg8.out j h | (have h := Option.some.inj h; first | omega | (simp at h; omega))); have Hg9 := Lib.hid hg9n; have Ho9 := Lib.hid ho9; have HB9 := Lib.hid (HB8.out.trans (hB9.mono hsW)); clear ho9 hg9 hon9 hB9 hg9n))
              go_roundw
              case rel =>
                have ho9 := Ho9.out
                obtain ⟨b9, hgb, rfl, hb9⟩ := ho9.pos (by omega)
                have hcl := ho9.capLe
                have hlen : (sortR (l.take (k + 1))).length = k + 1 := by rw [sortR_len]; simp; omega
                have hsW := HBq.out.size
                refine ⟨k + 1, b9, cap9, by omega, by go_num, by congr 1; first | omega | (have := Hqke.out; omega), by first | omega | (have := Hqke.out; omega), hcl.2, ?_, HB.out.trans (HB9.out.mono HB.out.size)⟩
                rw [Hst.out]
                have hA1 := all2_mono (fp' := fun k => w.heap.size ≤ k) Hall1.out (fun b _ hl => HB9.out.block b hl) HB9.out.size (fun _ h => h)
                have hA2 := all2_mono (fp' := fun k => w.heap.size ≤ k) Hall2.out (fun b _ hl => HB9.out.block b hl) HB9.out.size (fun _ h => h)
                have hlr : (out.take q ++ [(x0, x1, x2)] ++ out.drop q).length = q + 1 + (k - q) := by have := Hkl.out; simp; first | omega | (have := Hqke.out; omega)
                have hJ : OwnS edgeRep (fun k => w.heap.size ≤ k) w9 (some ⟨b9, 0, none⟩) cap9 g9 56 (out.take q ++ [(x0, x1, x2)] ++ out.drop q) := ⟨css1 ++ [edgeCs (x0, x1, x2)] ++ css2, by rw [hlr]; simpa [edgeCs] using (show Own w9 (some ⟨b9, 0, none⟩) cap9 g9 56 edgeRep.size (q + 1 + (k - q)) _ from ho9), all2_append (all2_append hA1 (.cons (edgeRep_ok Hok.out) .nil)) hA2⟩
                exact hJ.rd.mono (fun b h _ => h.elim id (fun h => by have := Hg9.out b h; have := HB.out.size; omega))
              case measure => simp [intOf]; omega
    · obtain rfl : k = l.length := by omega
      have hlen := sortR_len l
      have e : sortR (l.take l.length) = sortR l := by rw [List.take_length]
      rw [e] at hO
      have HO := Lib.hid hO
      have HB := Lib.hid hB
      have Hl := Lib.hid hlen
      clear hO hB hlen e
      go_wp2_with fail
      go_ret
      exact ⟨_, cap', by simp [Hl.out], by rw [Hl.out]; exact hc1, hc2, HO.out, HB.out⟩
end Go.Proofs.Ytlgnpogmgpgdaaa
