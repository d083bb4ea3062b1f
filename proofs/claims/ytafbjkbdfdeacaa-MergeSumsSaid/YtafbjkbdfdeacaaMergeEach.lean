/- The iterator behind merge.Each. -/
import Derived.Test.YtafbjkbdfdeacaaMergePlain
import Derived.Test.YtafbjkbdfdeacaaVals
import Derived.Test.YtafbjkbdfdeacaaLaw
namespace Go.Proofs.Ytafbjkbdfdeacaa
set_option linter.unusedSimpArgs false
set_option linter.unusedVariables false
open Go.RowKit

/-- a row or an error, and the values by which it is told -/
abbrev EachM := (RowD × Nat) × (Option Addr × Nat)
def encM (x : EachM) : Array Value := #[.agg #[.int .u32 (x.1.1.1 : Nat), .slice x.2.1 x.1.1.2.length x.2.2], .int .i64 (x.1.2 : Nat)]
def toldM (tp : Nat → Prop) (x : EachM) (W : World) : Prop :=
  x.1.1.2.length ≤ x.2.2 ∧ x.2.2 ≤ maxLen ∧ okRow x.1.1 ∧ RdS arcRep tp W x.2.1 x.1.1.2
theorem MG.stays {fp : Nat → Prop} {W W' : World} {m : Nat} {row : RowD} {last : List UInt8} {ao : Option Addr} {cap : Nat} {g : Option Nat} {lo : Option Addr} {lc : Nat} (h : MG m row last ao cap g lo lc W) (hs : Stays fp W W') (hm : fp m) (hg : ∀ k, g = some k → fp k)
    (hl : 0 < last.length → ∀ b off, lo = some ⟨b, off, none⟩ → fp b) : MG m row last ao cap g lo lc W' := by
  refine ⟨(hs.cell hm 0).trans h.c0, (hs.cell hm 1).trans h.c1, (hs.cell hm 2).trans h.c2, (hs.frozen hm 0).trans h.f0, (hs.frozen hm 1).trans h.f1, (hs.frozen hm 2).trans h.f2, h.own.stays hs (fun b hb _ => hb.elim (fun h => h.elim) (hg b)), ⟨h.rd.1, ?_⟩, Nat.lt_of_lt_of_le h.lt hs.size, h.ne, h.lne⟩
  rcases Nat.eq_zero_or_pos last.length with h0 | h0
  · exact .inl h0
  · obtain ⟨b, off, e, hb, hc⟩ := h.rd.pos h0
    exact .inr ⟨b, off, e, Nat.lt_of_lt_of_le hb hs.size, fun j hj => (hs.cell (hl h0 b off e) _).trans (hc j hj)⟩
/-- the key that was taken last is kept -/
theorem MG.keepLast {W : World} {m : Nat} {row : RowD} {last r : List UInt8} {ao : Option Addr} {cap : Nat} {g : Option Nat} {lo : Option Addr} {lc : Nat} (h : MG m row last ao cap g lo lc W) {ao4 : Option Addr} {cap4 : Nat} {g4 : Option Nat} {e : TypeId}
    (ho : Own W ao4 cap4 g4 e 1 r.length (byteVals r)) (hm : g4 ≠ some m) (hg : ∀ k, g4 = some k → g ≠ some k) : MG m row r ao cap g ao4 cap4 (W.setCell ⟨m, 2, none⟩ (.slice ao4 r.length cap4)) := by
  have hon : Only (fun k => k = m) W (W.setCell ⟨m, 2, none⟩ (.slice ao4 r.length cap4)) := (Only.refl (fun k => k = m) W).setCell (p := ⟨m, 2, none⟩) (fun _ => rfl) _
  refine ⟨?_, ?_, World.cell?_setCell_same _ _ _ h.c2, (World.frozen?_setCell ..).trans h.f0, (World.frozen?_setCell ..).trans h.f1, (World.frozen?_setCell ..).trans h.f2, h.own.only hon (fun b hb _ e => ?_), ?_, by simpa using h.lt, h.ne, fun b off e h0 => ?_⟩
  · rw [World.cell?_setCell_other _ _ _ _ (by simp)]; exact h.c0
  · rw [World.cell?_setCell_other _ _ _ _ (by simp)]; exact h.c1
  · subst e; rcases hb with h1 | h1
    · exact h1
    · exact h.ne h1
  · exact (ho.setCell (p := ⟨m, 2, none⟩) (fun b hb e => by subst e; exact hm hb) _).rd
  · rcases ho.addr with ⟨h1, _⟩ | ⟨b', h1, h2, _⟩
    · rw [h1] at e; cases e
    · rw [h2] at e; cases e
      exact ⟨fun e => hm (by rw [h1, e]), hg _ h1⟩

def eachMI (recs : List (List UInt8)) (J : List EachM → (Nat → Prop) → World → Prop) (fp0 : Nat → Prop) (H0 B H1 : Nat) (pre : List RowV) (fq : Nat → Prop) (W : World) : Prop :=
  ∃ (T : List EachM) (fp1 : Nat → Prop) (row : RowD) (last : List UInt8) (ao : Option Addr) (cap : Nat) (g : Option Nat) (lo : Option Addr) (lc : Nat) (gl : Option Nat),
    J T fp1 W ∧ (∀ rest, toldRE (0, []) [] (pre.map (·.1) ++ rest) = T.map (·.1) ++ toldRE row last rest) ∧ MG B row last ao cap g lo lc W ∧ okRow row ∧ row.2.length ≤ pre.length ∧
    ¬ fp1 B ∧ (∀ k, (g = some k ∨ gl = some k) → ¬ fp1 k ∧ H1 ≤ k ∧ k < W.heap.size) ∧ (0 < last.length → ∀ b off, lo = some ⟨b, off, none⟩ → gl = some b) ∧ (∀ k, fp1 k → fp0 k ∨ H0 ≤ k) ∧ (∀ k, fq k ↔ (fp1 k ∨ k = B ∨ g = some k ∨ gl = some k))
/-- how it is left: all told, or stopped -/
def endX {δ ε : Type} (ts : List δ) (J Jx : List (δ × ε) → (Nat → Prop) → World → Prop) (fp0 : Nat → Prop) (H0 : Nat) (c : Code) (fq : Nat → Prop) (W : World) : Prop :=
  c = .ret ∧ ∃ (T : List (δ × ε)) (fp1 : Nat → Prop), ((T.map (·.1) = ts ∧ J T fp1 W) ∨ (T.map (·.1) <+: ts ∧ Jx T fp1 W)) ∧ (∀ k, fp1 k → fp0 k ∨ H0 ≤ k) ∧ (∀ k, fp1 k → fq k)
theorem endX_own {fp0 fp1 fp2 fq tp tpy : Nat → Prop} {H0 : Nat} {W W2 : World} (hf1 : ∀ k, fp1 k → fq k) (hft : ∀ k, tpy k → fq k ∧ H0 ≤ k)
    (hn : ∀ k, fp1 k → fp0 k ∨ H0 ≤ k) (hH : H0 ≤ W.heap.size) (hfw : FwdT fp1 tpy fp2 W W2) : FwdT fq tp fp2 W W2 ∧ (∀ k, fp2 k → fp0 k ∨ H0 ≤ k) := by
  refine ⟨⟨hfw.only.mono (fun k _ hk => hf1 k hk), fun k hk => ⟨?_, (hfw.own k hk).2⟩⟩, fun k hk => ?_⟩
  · rcases (hfw.own k hk).1 with h | h | h
    · exact .inl (hf1 k h)
    · exact .inl (hft k h).1
    · exact .inr (.inr h)
  · rcases (hfw.own k hk).1 with h | h | h
    · exact hn k h
    · exact .inr (hft k h).2
    · exact .inr (by omega)
theorem endX_ret {δ ε : Type} {ts : List δ} {J Jx : List (δ × ε) → (Nat → Prop) → World → Prop} {fp0 fp1 fp2 fq tp tpy : Nat → Prop} {H0 : Nat} {W W2 : World} {T : List (δ × ε)} {e : Ending} (hf1 : ∀ k, fp1 k → fq k) (hft : ∀ k, tpy k → fq k ∧ H0 ≤ k)
    (hn : ∀ k, fp1 k → fp0 k ∨ H0 ≤ k) (hH : H0 ≤ W.heap.size) (hfw : FwdT fp1 tpy fp2 W W2) (hor : (e = .returned (.bool true) ∧ J T fp2 W2) ∨ (e = .returned (.bool false) ∧ Jx T fp2 W2)) (hT : T.map (·.1) = ts) :
    ∃ fp', FwdT fq tp fp' W W2 ∧ endX ts J Jx fp0 H0 .ret fp' W2 := by
  obtain ⟨h1, h2⟩ := endX_own (tp := tp) hf1 hft hn hH hfw
  refine ⟨fp2, h1, rfl, T, fp2, ?_, h2, fun k hk => hk⟩
  rcases hor with ⟨_, h⟩ | ⟨_, h⟩
  · exact .inl ⟨hT, h⟩
  · exact .inr ⟨by rw [hT]; exact List.prefix_refl _, h⟩
theorem endX_stop {δ ε : Type} {ts : List δ} {J Jx : List (δ × ε) → (Nat → Prop) → World → Prop} {fp0 fp1 fp2 fq tp tpy : Nat → Prop} {H0 : Nat} {W W2 : World} {T : List (δ × ε)} (hf1 : ∀ k, fp1 k → fq k) (hft : ∀ k, tpy k → fq k ∧ H0 ≤ k)
    (hn : ∀ k, fp1 k → fp0 k ∨ H0 ≤ k) (hH : H0 ≤ W.heap.size) (hfw : FwdT fp1 tpy fp2 W W2) (hjx : Jx T fp2 W2) (hT : T.map (·.1) <+: ts) :
    ∃ fp', FwdT fq tp fp' W W2 ∧ endX ts J Jx fp0 H0 .ret fp' W2 := by
  obtain ⟨h1, h2⟩ := endX_own (tp := tp) hf1 hft hn hH hfw
  exact ⟨fp2, h1, rfl, T, fp2, .inr ⟨hT, hjx⟩, h2, fun k hk => hk⟩

attribute [local go_sem] Oper.semAt_some

set_option maxRecDepth 100000 in
set_option maxHeartbeats 1600000 in
theorem each14_iter (eb b : Nat) (recs : List (List UInt8)) (ao : Option Addr) (cap : Nat) (rfp : Nat → Prop) (hl : recs.length ≤ 1073741824) :
    IterT Try.prog 44 #[.pointer (some ⟨eb, 0, none⟩)] encM (fun pre => pre.map (·.1) <+: toldRE (0, []) [] recs) (fun xs => xs.map (·.1) = toldRE (0, []) [] recs) (fun _ => True)
      (fun pre x tp W => toldM tp x W)
      (fun W => W.cell? ⟨eb, 0, none⟩ = some (.func (.func 49) #[] #[.pointer (some ⟨b, 0, none⟩)]) ∧ W.cell? ⟨b, 0, none⟩ = some (.slice ao recs.length cap) ∧ RdS (Rep.slice Rep.u8) rfp W ao recs ∧ ∀ k, rfp k → k < W.heap.size)
      (fun k => k = eb ∨ k = b ∨ rfp k) (fun _ => False) := by
  rintro ly J Jx fp w ⟨hce, hcb, hrd, hrl⟩ hfp hJ hJx _ hY h0
  have hq : ∀ (fn : Fn) (a b : Array Value) (w : World), (binOp .eql 47 (.func fn a b) .nilFunc).run Try.prog w = .ok (.bool false) w := fun _ _ _ _ => by kernel_rfl
  have heb : eb < w.heap.size := World.block_lt_of_cell? w _ hce
  have hbb : b < w.heap.size := World.block_lt_of_cell? w _ hcb
  have HJ := Lib.hid hJ
  have HJx := Lib.hid hJx
  have HY := Lib.hid hY
  have Hfp := Lib.hid hfp
  have Hcb := Lib.hid hcb
  have Hrd := Lib.hid hrd
  have Hrl := Lib.hid hrl
  have H0 := Lib.hid h0
  clear hJ hJx hY hfp hcb hrd hrl h0
  refine callsIn_of_wp_marks Try.func44 rfl trivial ?_
  simp only [Try.ntmps44, List.size_toArray, List.length_cons, List.length_nil, Nat.reduceAdd, Nat.reduceSub, Array.replicate_succ, Array.replicate_zero, List.push_toArray, List.append_toArray, List.nil_append, List.cons_append]
  gi_wp2_with fail
  obtain ⟨w1, hw1⟩ : ∃ w1, (w.alloc (Obj.cells #[Value.func (Fn.yield ly) #[] #[]] 86)).alloc (Obj.cells #[Value.int IntKind.u32 0, Value.slice none 0 0, Value.slice none 0 0] 88) = w1 := ⟨_, rfl⟩
  have y0 : w1.cell? ⟨w.heap.size, 0, none⟩ = some (.func (.yield ly) #[] #[]) := by rw [← hw1]; simp [go_sem, ↓IntWalk.iteOmega]
  have hb0 : MG (w.heap.size + 1) (0, []) [] none 0 none none 0 w1 := by
    rw [← hw1]
    exact ⟨by simp [go_sem, ↓IntWalk.iteOmega], by simp [go_sem, ↓IntWalk.iteOmega], by simp [go_sem, ↓IntWalk.iteOmega], by simp [go_sem, ↓IntWalk.iteOmega], by simp [go_sem, ↓IntWalk.iteOmega], by simp [go_sem, ↓IntWalk.iteOmega], OwnS.nil _ _ _ _, ⟨rfl, .inl rfl⟩, by simp, by simp, fun _ _ e _ => by cases e⟩
  have hs1 : w1.heap.size = w.heap.size + 2 := by rw [← hw1]; simp
  have hB1 : Below w.heap.size w w1 := by rw [← hw1]; exact (ext_alloc w _).alloc (by simp) _
  rw [hw1]
  have Y0 := Lib.hid y0
  have Hb0 := Lib.hid hb0
  have HB1 := Lib.hid hB1
  have Hs1 := Lib.hid hs1
  have hs1' : w.heap.size + 2 ≤ w1.heap.size := by omega
  clear hw1 y0 hb0 hB1 hs1
  have HV := vals_iter b recs ao cap rfp hl
  refine wpIn_rangeTS (gf := 49) (lb := #[.pointer (some ⟨b, 0, none⟩)]) rfl (enters_of Try.func49 (by kernel_rfl) rfl) HV.toT (fun _ => rfl)
    (fun k => fp k ∨ k = w.heap.size + 1) ?hfp ?hrs (fun k h => h.elim)
    (fun pre fq W => eachMI recs J fp w.heap.size (w.heap.size + 1) w1.heap.size pre fq W) (fun c pre fq W => endX (toldRE (0, []) [] recs) J Jx fp w.heap.size c fq W) ?hI ?hIx (fun _ _ _ _ => trivial) ?hPre ?h0
    [(12, fun x : RowV => x.2), (4, fun x : RowV => x.2)] ?assign ?body ?done ?stop
  case hfp =>
    rintro k (h | rfl)
    · exact ⟨by have := (Hfp.out k h).1; omega, fun hr => (Hfp.out k h).2 (.inr hr)⟩
    · refine ⟨by omega, fun hr => ?_⟩
      rcases hr with hr | hr
      · omega
      · have := Hrl.out _ hr; omega
  case hrs =>
    rintro k (rfl | h)
    · omega
    · have := Hrl.out _ h; omega
  case hI =>
    rintro pre fq A B ⟨T, fp1, row, last, ao, cap, g, lo, lc, gl, hj, ht, hb, hok, hlen, hn1, hn2, hn3, hn4, hf⟩ hs
    exact ⟨T, fp1, row, last, ao, cap, g, lo, lc, gl, HJ.out _ _ _ _ hj (hs.mono fun k hk => (hf k).2 (.inl hk)), ht, hb.stays hs ((hf _).2 (.inr (.inl rfl))) (fun k hk => (hf k).2 (.inr (.inr (.inl hk)))) (fun h0 b off e => (hf b).2 (.inr (.inr (.inr (hn3 h0 b off e))))), hok, hlen, hn1,
      fun k hk => ⟨(hn2 k hk).1, (hn2 k hk).2.1, Nat.lt_of_lt_of_le (hn2 k hk).2.2 hs.size⟩, hn3, hn4, hf⟩
  case hIx =>
    rintro c pre fq A B ⟨rfl, T, fp1, hj, hn, hf⟩ hs
    have hs' : Stays fp1 A B := hs.mono fun k hk => hf k hk
    exact ⟨rfl, T, fp1, hj.imp (fun h => ⟨h.1, HJ.out _ _ _ _ h.2 hs'⟩) (fun h => ⟨h.1, HJx.out _ _ _ _ h.2 hs'⟩), hn, hf⟩
  case hPre =>
    intro W hb
    exact ⟨(hb.cell (p := ⟨b, 0, none⟩) (by show b < w1.heap.size; omega)).trans ((HB1.out.cell (p := ⟨b, 0, none⟩) hbb).trans Hcb.out), (Hrd.out.ext HB1.out).ext hb⟩
  case h0 =>
    refine ⟨[], fp, (0, []), [], none, 0, none, none, 0, none, J_ext HJ.out H0.out (fun k hk => (Hfp.out k hk).1) HB1.out, fun rest => by simp, Hb0.out, ⟨by simp, by simp, by simp [sumA]⟩, by simp, fun h => ?_, by simp, by simp, fun k hk => .inl hk, fun k => by simp⟩
    have := (Hfp.out _ h).1
    omega
  case assign =>
    intro l x W K hK
    gi_wp2
    exact hK
  case stop =>
    rintro D c xs fq W hD _ ⟨rfl, T, fp1, hj, hn, hf⟩ honly hfo hlt hnD hk
    gi_wp2
    have hs : Stays fp1 W (W.putObj D (.deferred none)) := ⟨rfl, rfl, rfl, by simp, fun k hk => World.putObj_heap_other (fun e => hnD (e ▸ hf k hk))⟩
    refine leaveM1 hk (results_none rfl _ _ _) (IterEnd.mk T fp1 ?_ (fun k hk => ⟨hn k hk, by simpa using hlt k (hf k hk)⟩) (hj.imp (fun h => ⟨h.1, HJ.out _ _ _ _ h.2 hs⟩) (fun h => ⟨h.1, HJx.out _ _ _ _ h.2 hs⟩)))
    refine ((Only.of_below (fp := fun k => fp k ∨ False) HB1.out).trans honly ?_).putObj _ (fun h => by omega)
    rintro i hi ((h | h) | h)
    · exact .inl h
    · omega
    · exact .inr h
  case body =>
    rintro l0 pre fq tp x W Wy hl0 hr0 honly hok ⟨htp, ⟨ra, rc, hx2, hrc1, hrc2, hrr⟩, hgk⟩ ho0 hnl hflt htp2 ⟨T, fp1, row, last, ao', cap', g, lo, lc, gl, hj, ht, hb, hokp, hlen, hn1, hn2, hn3, hn4, hf⟩ hsz
    obtain ⟨r, xv⟩ := x
    simp only at hx2 hrc1 hrr
    subst hx2
    obtain ⟨rest, hrest⟩ := hok
    rw [List.map_append, List.append_assoc] at hrest
    have htold : toldRE (0, []) [] recs = T.map (·.1) ++ toldRE row last (r :: rest) := by rw [← hrest]; exact ht _
    have hB1s := HB1.out.size
    have hy0 : W.cell? ⟨w.heap.size, 0, none⟩ = some (.func (.yield ly) #[] #[]) := (honly.cell (by omega) (by
      rintro ((h | h) | h)
      · have := (Hfp.out _ h).1; omega
      · omega
      · exact h) 0).trans Y0.out
    have hon : Only (fun k => fp k ∨ False) w W := (Only.of_below (fp := fun k => fp k ∨ False) HB1.out).trans honly (by
      rintro i hi ((h | h) | h)
      · exact .inl h
      · omega
      · exact .inr h)
    have hrdS : RdS Rep.u8 rfp W ra r := hrr.only ho0 (fun k hk _ e => by have := Hrl.out k hk; omega)
    have hrdl : Rd W ra r.length (byteVals r) := hrdS.rdU8
    have hrf : 0 < r.length → ∀ b off, ra = some ⟨b, off, none⟩ → rfp b := fun h0 b off e => by
      rcases hrdS with h | ⟨b', off', h1, h2, _⟩
      · subst h; simp at h0
      · rw [e] at h1; cases h1; exact h2
    have hfp1 : ∀ k, fp1 k → k < W.heap.size := fun k hk => hflt k ((hf k).2 (.inl hk))
    have hf1q : ∀ k, fp1 k → fq k := fun k hk => (hf k).2 (.inl hk)
    have hprel : pre.length < 1073741824 := by
      have := congrArg List.length hrest
      simp at this; omega
    have hWs : w1.heap.size ≤ W.heap.size := honly.size
    have hMay := may_any (w.heap.size + 1) row last r ao' cap' g lo lc ra rc W hb hrdl (by omega) hokp.2.2
    have hxo := keyE_ok r
    have hTb := toldRE_bad row last r rest
    have hTg := fun l => toldRE_ok row last r l
    have hmo := fun h => may_ok (row := row) (last := last) (k := r) h
    have hkg : ∀ k, keyE r = k → keyE r = k := fun _ h => h
    clear hkg
    generalize mayErr row last r = er at hMay hTb hTg hmo
    have hFull := fun W' h => full_any (w.heap.size + 1) row last ao' cap' lo lc (keyE r) W' h
    have hFn := full_not (row := row) (x := keyE r)
    generalize keyE r = x at hMay hxo hTg hmo hFull hFn
    generalize fullB row x = fb at hTg hFull hFn
    have HF := Lib.hid hf
    have HT := Lib.hid ht
    have HTo := Lib.hid htold
    have Hj := Lib.hid hj
    have Hb := Lib.hid hb
    have Hokp := Lib.hid hokp
    have Hn2 := Lib.hid hn2
    have Hn3 := Lib.hid hn3
    have Hn4 := Lib.hid hn4
    have Hon := Lib.hid hon
    have Hrest := Lib.hid hrest
    have Hfp1 := Lib.hid hfp1
    have Hf1q := Lib.hid hf1q
    have Hflt := Lib.hid hflt
    have HTb := Lib.hid hTb
    have HTg := Lib.hid hTg
    have Hmo := Lib.hid hmo
    have HMay := Lib.hid hMay
    have HFull := Lib.hid hFull
    have HFn := Lib.hid hFn
    have Hxo := Lib.hid hxo
    have Hrd1 := Lib.hid hrdl
    have Hrf := Lib.hid hrf
    have Hlen := Lib.hid hlen
    have Hprel := Lib.hid hprel
    have Hy0 := Lib.hid hy0
    have hWY : w.heap.size < W.heap.size := by omega
    have hWB : w.heap.size + 1 < W.heap.size := by omega
    clear hf ht htold hj hb hokp hn2 hn3 hn4 hon hrest htp htp2 hgk ho0 honly hrr hrc2 hrc1 hfp1 hf1q hflt HV hr0 hl0 hnl hrdS hrdl hrf hTb hTg hmo hMay hFull hFn hxo hlen hprel hy0
    obtain ⟨x0, x1, x2⟩ := x
    obtain ⟨fr, arcs⟩ := row
    simp only [edgeV] at HMay HFull
    by_cases her : er = 0
    · subst her
      obtain ⟨h12, hx2z, hcmp, hleft⟩ := Hmo.out rfl
      have hmay0 := HMay.out
      rw [show ((0 : Nat) : Int) = 0 from rfl] at hmay0
      have HMay := Lib.hid hmay0
      have H12 := Lib.hid h12
      have Hleft := Lib.hid hleft
      have HFq : Hid (∀ k, fq k → ¬ rfp k) := Lib.hid (fun k hk hr => by
        have h1 := Hrl.out k hr
        rcases (HF.out k).1 hk with h | h | h | h
        · rcases Hn4.out k h with h2 | h2
          · exact (Hfp.out k h2).2 (.inr (.inr hr))
          · omega
        · omega
        · have := (Hn2.out k (.inl h)).2.1; omega
        · have := (Hn2.out k (.inr h)).2.1; omega)
      have hfin : ∀ (T' : List EachM) (fp2 : Nat → Prop) (W5 W6 W7 : World) (ao6 : Option Addr) (cap6 : Nat) (g6 : Option Nat) (ao7 : Option Addr) (cap7 : Nat) (g7 : Option Nat), J T' fp2 W5 → T'.map (·.1) = T.map (·.1) ++ (if fb = true then [((fr, arcs), 0)] else []) → Only fq W W5 →
          (∀ k, fp2 k → (fp1 k ∨ g = some k ∨ W.heap.size ≤ k) ∧ k < W5.heap.size) → ¬ fp2 (w.heap.size + 1) → MG (w.heap.size + 1) (takeM (fr, arcs) (x0, x1, x2)) last ao6 cap6 g6 lo lc W6 → (∀ k, g6 = some k → (g = some k ∧ ¬ fp2 k) ∨ W5.heap.size ≤ k) →
          Only (fun k => k = w.heap.size + 1 ∨ (g = some k ∧ ¬ fp2 k)) W5 W6 → Own W7 ao7 cap7 g7 5 1 r.length (byteVals r) → (∀ k, g7 = some k → W6.heap.size ≤ k) → Below W6.heap.size W6 W7 →
          ∃ fp', FwdT fq tp fp' W (W7.setCell ⟨w.heap.size + 1, 2, none⟩ (.slice ao7 r.length cap7)) ∧ eachMI recs J fp w.heap.size (w.heap.size + 1) w1.heap.size (pre ++ [(r, .slice ra r.length rc)]) fp' (W7.setCell ⟨w.heap.size + 1, 2, none⟩ (.slice ao7 r.length cap7)) := by
        intro T' fp2 W5 W6 W7 ao6 cap6 g6 ao7 cap7 g7 hj5 hT5 ho5 hf2 hnB hM6 hg6 ho6 ho7 hg7 hB7
        have hO : Only (fun k => k = w.heap.size + 1 ∨ (g = some k ∧ ¬ fp2 k)) W5 (W7.setCell ⟨w.heap.size + 1, 2, none⟩ (.slice ao7 r.length cap7)) := (ho6.ext hB7).setCell (fun _ => .inl rfl) _
        have hs5 := ho5.size
        have hs6 := ho6.size
        have hs7 := hB7.size
        have hsF := hO.size
        have hg6l := hM6.own.lt
        have hfB : fq (w.heap.size + 1) := (HF.out _).2 (.inr (.inl rfl))
        have hg6n : ∀ k, g6 = some k → ¬ fp2 k ∧ w1.heap.size ≤ k ∧ k < W6.heap.size := fun k hk => by
          refine ⟨?_, ?_, hg6l k hk⟩
          · rcases hg6 k hk with h | h
            · exact h.2
            · exact fun h2 => by have := (hf2 k h2).2; omega
          · rcases hg6 k hk with h | h
            · exact (Hn2.out k (.inl h.1)).2.1
            · omega
        have hsz7 : W7.heap.size ≤ (W7.setCell ⟨w.heap.size + 1, 2, none⟩ (.slice ao7 r.length cap7)).heap.size := by simp
        have hg7l := ho7.lt
        refine ⟨fun k => fp2 k ∨ k = w.heap.size + 1 ∨ g6 = some k ∨ g7 = some k, ⟨ho5.trans hO (fun i _ h => h.elim (fun h => by rw [h]; exact hfB) (fun h => (HF.out i).2 (.inr (.inr (.inl h.1))))), fun k hk => ?_⟩,
          T', fp2, takeM (fr, arcs) (x0, x1, x2), r, ao6, cap6, g6, ao7, cap7, g7, HJ.out _ _ _ _ hj5 (hO.stays (fun k hk => ⟨(hf2 k hk).2, ?_⟩)), fun l => ?_, (hM6.ext hB7).keepLast ho7 ?_ ?_, takeM_ok Hokp.out Hxo.out Hleft.out, ?_, hnB, fun k hk => ?_, ?_, fun k hk => ?_, fun k => Iff.rfl⟩
        · rcases hk with hk | rfl | hk | hk
          · refine ⟨?_, Nat.lt_of_lt_of_le (hf2 k hk).2 hsF⟩
            rcases (hf2 k hk).1 with h | h | h
            · exact .inl (Hf1q.out k h)
            · exact .inl ((HF.out k).2 (.inr (.inr (.inl h))))
            · exact .inr (.inr h)
          · exact ⟨.inl hfB, by omega⟩
          · refine ⟨?_, by have := hg6l k hk; omega⟩
            rcases hg6 k hk with h | h
            · exact .inl ((HF.out k).2 (.inr (.inr (.inl h.1))))
            · exact .inr (.inr (by omega))
          · exact ⟨.inr (.inr (by have := hg7 k hk; omega)), by have := hg7l k hk; omega⟩
        · rintro (h | h)
          · subst h; exact hnB hk
          · exact h.2 hk
        · rw [List.map_append, List.append_assoc]
          show toldRE (0, []) [] (pre.map (·.1) ++ (r :: l)) = _
          rw [HT.out, HTg.out l rfl, hT5, List.append_assoc]
        · exact fun e => by have := hg7 _ e; omega
        · exact fun k hk e => by have := hg7 k hk; have := hg6l k e; omega
        · have h1 := (takeM_len (fr, arcs) (x0, x1, x2)).1
          have h2 := Hlen.out
          simp at h1 h2 ⊢; omega
        · rcases hk with hk | hk
          · exact ⟨(hg6n k hk).1, (hg6n k hk).2.1, by have := (hg6n k hk).2.2; omega⟩
          · exact ⟨fun h => by have := (hf2 k h).2; have := hg7 k hk; omega, by have := hg7 k hk; omega, by have := hg7l k hk; omega⟩
        · intro h0 b' off e
          rcases ho7.addr with ⟨h1, _⟩ | ⟨b2, h1, h2, _⟩
          · rw [h1] at e; cases e
          · rw [h2] at e; cases e; exact h1
        · rcases (hf2 k hk).1 with h | h | h
          · exact Hn4.out k h
          · have := (Hn2.out k (.inl h)).2.1; right; omega
          · right; omega
      have Hfin := Lib.hid hfin
      have h12' : (r.length : Int) = 12 := by omega
      clear hfin hmay0 h12 hx2z hcmp hleft
      have HCl := Lib.hid (fun (W' : World) (h : Only fq W W') => clone_any r ra rc W' (by have := H12.out; omega) (by have := H12.out; omega) (Hrd1.out.only h (fun h0 k off e h => HFq.out k h (Hrf.out h0 k off e))))
      cases fb
      · have HTk := Lib.hid (fun W' (hB : Below W.heap.size W W') => take_any (w.heap.size + 1) (fr, arcs) last ao' cap' g lo lc (x0, x1, x2) W' (Hb.out.ext hB) Hxo.out (by have := Hlen.out; have := Hprel.out; omega) Hleft.out Hokp.out.2.2)
        have dc0 := Hb.out.c0
        have dc1 := Hb.out.c1
        simp only [edgeV] at HTk dc0 dc1
        clear h12'
        gi_wp2_with (first
          | (gi_at_call 45; refine (CallsIn.inRound l0 (callsIn_wide.2 HMay.out)).mono ?_; rintro e W2 ⟨rfl, hB2⟩; have hs2 := hB2.size; have dc0 := (hB2.cell (p := ⟨w.heap.size + 1, 0, none⟩) hWB).trans dc0; have dc1 := (hB2.cell (p := ⟨w.heap.size + 1, 1, none⟩) hWB).trans dc1; have HB2 := Lib.hid hB2; clear hB2)
          | (gi_at_call 46; refine (CallsIn.inRound l0 (callsIn_wide.2 (HFull.out _ (Hb.out.toH.ext (HB2.out.trans (((ext_alloc W2 _).alloc (by simp) _).mono hs2)))))).mono ?_; rintro e W4 ⟨rfl, hB4⟩; have hs4 := hB4.size; have x0' := ((bcell hB4).1 W2.heap.size 0 (by simp; omega)).trans (show _ = some (Value.int .u32 (x0 : Nat)) by simp [go_sem, ↓IntWalk.iteOmega]); have x1' := ((bcell hB4).1 W2.heap.size 1 (by simp; omega)).trans (show _ = some (Value.int .u32 (x1 : Nat)) by simp [go_sem, ↓IntWalk.iteOmega]); have x2' := ((bcell hB4).1 W2.heap.size 2 (by simp; omega)).trans (show _ = some (Value.int .u32 (x2 : Nat)) by simp [go_sem, ↓IntWalk.iteOmega]); have HB4 := Lib.hid ((HB2.out.trans (((ext_alloc W2 _).alloc (by simp) _).mono hs2)).trans (hB4.mono (by simp; omega))); simp at hs4; clear hB4 dc0 dc1)
          | (gi_at_call 47; refine (CallsIn.inRound l0 (callsIn_wide.2 (HTk.out W4 HB4.out))).mono ?_; rintro e W6 ⟨rfl, ao6, cap6, g6, hM6, hg6, ho6⟩; have hs6 := ho6.size; have t2 := hM6.c2; have tf := hM6.f2; have HM6 := Lib.hid hM6; have Hg6 := Lib.hid hg6; have Ho6 := Lib.hid ho6; clear hM6 hg6 ho6)
          | (gi_at_call 48; refine (CallsIn.inRound l0 (callsIn_wide.2 (HCl.out W6 ((Only.of_below HB4.out).trans Ho6.out (fun i _ h => h.elim (fun h => by rw [h]; exact (HF.out _).2 (.inr (.inl rfl))) (fun h => (HF.out i).2 (.inr (.inr (.inl h.2))))))))).mono ?_; rintro e W7 ⟨ao7, cap7, g7, rfl, ho7, hg7, hB7⟩; have t2 := ((bcell hB7).1 (w.heap.size + 1) 2 HM6.out.lt).trans t2; have tf := ((bcell hB7).2 (w.heap.size + 1) 2 HM6.out.lt).trans tf; have Ho7 := Lib.hid ho7; have Hg7 := Lib.hid hg7; have HB7 := Lib.hid hB7; clear ho7 hg7 hB7))
        exact Hfin.out T fp1 W4 W6 W7 ao6 cap6 g6 ao7 cap7 g7 (J_ext HJ.out Hj.out Hfp1.out HB4.out) (by simp) (Only.of_below HB4.out) (fun k hk => ⟨.inl hk, by have := Hfp1.out k hk; omega⟩) hn1 HM6.out (fun k hk => (Hg6.out k hk).imp (fun h => ⟨h.2, (Hn2.out k (.inl h.2)).1⟩) id)
          (Ho6.out.mono (fun k _ hk => hk.imp id (fun h => ⟨h.2, (Hn2.out k (.inl h.2)).1⟩))) Ho7.out Hg7.out HB7.out
      · have hns := HFn.out rfl
        have HTk := Lib.hid (fun W' h => take_new (w.heap.size + 1) (fr, arcs) last ao' cap' lo lc (x0, x1, x2) W' h Hxo.out hns)
        have hT2 : (T ++ [(((fr, arcs), 0), (ao', cap'))] : List EachM).map (·.1) = T.map (·.1) ++ [((fr, arcs), 0)] := by simp
        have hT3 : (T ++ [(((fr, arcs), 0), (ao', cap'))] : List EachM).map (·.1) <+: toldRE (0, []) [] recs := by
          rw [hT2, HTo.out, HTg.out rest rfl, if_pos rfl, ← List.append_assoc]; exact List.prefix_append _ _
        have HT2 := Lib.hid hT2
        have HT3 := Lib.hid hT3
        have HYp := Lib.hid (fun W2 (hB2 : Below W.heap.size W W2) => (@_root_.id (YieldAt Fence.wide 0 Try.prog ly #[.agg #[.int .u32 (fr : Nat), .slice ao' arcs.length cap'], .int .i64 0] W2 _) (HY.out T fp1 (fun k => g = some k) (((fr, arcs), 0), (ao', cap')) W2 (J_ext HJ.out Hj.out Hfp1.out hB2)
          (fun k hk => Nat.lt_of_lt_of_le (Hfp1.out k hk) hB2.size) (fun k hk => ⟨by have := (Hn2.out k (.inl hk)).2.1; omega, by have := (Hn2.out k (.inl hk)).2.2; have := hB2.size; omega, (Hn2.out k (.inl hk)).1⟩) (Hon.out.ext hB2) hT3
          ⟨Hb.out.own.capLe.1, Hb.out.own.capLe.2, Hokp.out, ((Hb.out.own.ext hB2).rd.mono (fun b hb _ => hb.elim (fun h => h.elim) id))⟩)))
        have dc0 := Hb.out.c0
        have dc1 := Hb.out.c1
        simp only [edgeV] at HTk dc0 dc1
        clear hT2 hT3 hns h12'
        gi_wp2_with (first
          | (gi_at_call 45; refine (CallsIn.inRound l0 (callsIn_wide.2 HMay.out)).mono ?_; rintro e W2 ⟨rfl, hB2⟩; have hs2 := hB2.size; have dc0 := (hB2.cell (p := ⟨w.heap.size + 1, 0, none⟩) hWB).trans dc0; have dc1 := (hB2.cell (p := ⟨w.heap.size + 1, 1, none⟩) hWB).trans dc1; have HB2 := Lib.hid hB2; clear hB2)
          | (gi_at_call 46; refine (CallsIn.inRound l0 (callsIn_wide.2 (HFull.out _ (Hb.out.toH.ext (HB2.out.trans (((ext_alloc W2 _).alloc (by simp) _).mono hs2)))))).mono ?_; rintro e W4 ⟨rfl, hB4⟩; have hs4 := hB4.size; have x0' := ((bcell hB4).1 W2.heap.size 0 (by simp; omega)).trans (show _ = some (Value.int .u32 (x0 : Nat)) by simp [go_sem, ↓IntWalk.iteOmega]); have x1' := ((bcell hB4).1 W2.heap.size 1 (by simp; omega)).trans (show _ = some (Value.int .u32 (x1 : Nat)) by simp [go_sem, ↓IntWalk.iteOmega]); have x2' := ((bcell hB4).1 W2.heap.size 2 (by simp; omega)).trans (show _ = some (Value.int .u32 (x2 : Nat)) by simp [go_sem, ↓IntWalk.iteOmega]); have r0' := ((bcell hB4).1 (W2.heap.size + 1) 0 (by simp)).trans (show _ = some (Value.int .u32 (fr : Nat)) by simp [go_sem, ↓IntWalk.iteOmega]); have r1' := ((bcell hB4).1 (W2.heap.size + 1) 1 (by simp)).trans (show _ = some (Value.slice ao' arcs.length cap') by simp [go_sem, ↓IntWalk.iteOmega]); have HB4 := Lib.hid ((HB2.out.trans (((ext_alloc W2 _).alloc (by simp) _).mono hs2)).trans (hB4.mono (by simp; omega))); simp at hs4; have hy4 := (HB4.out.cell (p := ⟨w.heap.size, 0, none⟩) hWY).trans Hy0.out; clear hB4 dc0 dc1; obtain ⟨fn, tmps, assign, body, hy, hR⟩ := HYp.out W4 HB4.out; have HR := Lib.hid hR; clear hR))
        refine HR.out.mono ?_
        clear hy HR
        rintro e W5 ⟨fp2, hfw2, (⟨rfl, hj3⟩ | ⟨rfl, hjx3⟩)⟩
        · have hs5 := hfw2.only.size
          have hxn : ¬ fp1 W2.heap.size := fun h => by have := Hfp1.out _ h; omega
          have x0' := (hfw2.only.cell (by omega) hxn 0).trans x0'
          have x1' := (hfw2.only.cell (by omega) hxn 1).trans x1'
          have x2' := (hfw2.only.cell (by omega) hxn 2).trans x2'
          have hM5 := (Hb.out.toH.ext (Below.mono HB4.out (Nat.le_refl _))).only hfw2.only hn1 (fun h0 b off e h => (Hn2.out b (.inr (Hn3.out h0 b off e))).1 h)
          have HM5 := Lib.hid hM5
          have Hj3 := Lib.hid hj3
          have Hfw2 := Lib.hid hfw2
          have ho5 : Only fq W W5 := (Only.of_below HB4.out).trans hfw2.only (fun i _ h => Hf1q.out i h)
          have Ho5 := Lib.hid ho5
          clear hM5 hj3 hfw2 ho5 hxn
          gi_wp2_with (first
            | (gi_at_call 47; refine (CallsIn.inRound l0 (callsIn_wide.2 (HTk.out W5 HM5.out))).mono ?_; rintro e W6 ⟨rfl, ao6, cap6, g6, hM6, hg6, ho6⟩; have hs6 := ho6.size; have t2 := hM6.c2; have tf := hM6.f2; have HM6 := Lib.hid hM6; have Hg6 := Lib.hid hg6; have Ho6 := Lib.hid ho6; clear hM6 hg6 ho6)
            | (gi_at_call 48; refine (CallsIn.inRound l0 (callsIn_wide.2 (HCl.out W6 (Ho5.out.trans Ho6.out (fun i _ h => by rw [h]; exact (HF.out _).2 (.inr (.inl rfl))))))).mono ?_; rintro e W7 ⟨ao7, cap7, g7, rfl, ho7, hg7, hB7⟩; have t2 := ((bcell hB7).1 (w.heap.size + 1) 2 HM6.out.lt).trans t2; have tf := ((bcell hB7).2 (w.heap.size + 1) 2 HM6.out.lt).trans tf; have Ho7 := Lib.hid ho7; have Hg7 := Lib.hid hg7; have HB7 := Lib.hid hB7; clear ho7 hg7 hB7))
          exact Hfin.out _ fp2 W5 W6 W7 ao6 cap6 g6 ao7 cap7 g7 Hj3.out (by rw [HT2.out]; simp) Ho5.out (fun k hk => ⟨(Hfw2.out.own k hk).1.imp id (fun h => h.imp id (fun h => by omega)), (Hfw2.out.own k hk).2⟩)
            (fun h => (Hfw2.out.own _ h).1.elim hn1 (fun h => h.elim (fun h => by have := (Hn2.out _ (.inl h)).2.1; omega) (fun h => by omega))) HM6.out (fun k hk => .inr (Hg6.out k hk)) (Ho6.out.mono (fun k _ hk => .inl hk)) Ho7.out Hg7.out HB7.out
        · have hfw3 : FwdT fp1 (fun k => g = some k) fp2 W W5 := ⟨(Only.of_below HB4.out).trans hfw2.only (fun _ _ h => h), fun k hk => ⟨(hfw2.own k hk).1.elim .inl (fun h => h.elim (fun h => .inr (.inl h)) (fun h => .inr (.inr (by omega)))), (hfw2.own k hk).2⟩⟩
          have Hend := Lib.hid (endX_stop (ts := toldRE (0, []) [] recs) (Jx := Jx) (J := J) (fp0 := fp) (fq := fq) (tp := tp) Hf1q.out (fun k hk => ⟨(HF.out k).2 (.inr (.inr (.inl hk))), by have := (Hn2.out k (.inl hk)).2.1; omega⟩) Hn4.out (by omega) hfw3 hjx3 HT3.out)
          clear hfw2 hfw3 hjx3
          gi_wp2_with fail
          exact Hend.out
    · have hd : ((er : Int) != 0) = true := by simp; omega
      have hT2 : (T ++ [(((0, []), er), (none, 0))] : List EachM).map (·.1) = toldRE (0, []) [] recs := by
        rw [HTo.out, HTb.out her, List.map_append]; rfl
      have HT2 := Lib.hid hT2
      have HY2 := Lib.hid (fun W2 (hB2 : Below W.heap.size W W2) => (@_root_.id (YieldAt Fence.wide 0 Try.prog ly #[.agg #[.int .u32 0, .slice none 0 0], .int .i64 (er : Nat)] W2 _) (HY.out T fp1 (fun _ => False) (((0, []), er), (none, 0)) W2 (J_ext HJ.out Hj.out Hfp1.out hB2)
        (fun k hk => Nat.lt_of_lt_of_le (Hfp1.out k hk) hB2.size) (fun k hk => hk.elim) (Hon.out.ext hB2) (by rw [hT2]; exact List.prefix_refl _) ⟨by simp, by simp [maxLen], ⟨by simp, by simp, by simp [sumA]⟩, .inl rfl⟩)))
      clear hT2 her
      gi_wp2_with (first
        | (gi_at_call 45; refine (CallsIn.inRound l0 (callsIn_wide.2 HMay.out)).mono ?_; rintro e W2 ⟨rfl, hB2⟩; have hs2 := hB2.size; have hy2 := (hB2.cell (p := ⟨w.heap.size, 0, none⟩) hWY).trans Hy0.out; have HB2 := Lib.hid hB2; clear hB2; obtain ⟨fn, tmps, assign, body, hy, hR⟩ := HY2.out (W2.alloc (Obj.cells #[Value.int IntKind.u32 x0, Value.int IntKind.u32 x1, Value.int IntKind.u32 x2] 24)) (HB2.out.trans ((ext_alloc W2 _).mono hs2)); have HR := Lib.hid hR; clear hR))
      refine HR.out.mono ?_
      clear hy HR
      rintro e W3 ⟨fp2, hfw2, hor⟩
      have hs3 := hfw2.only.size
      simp at hs3
      have hfw3 : FwdT fp1 (fun _ => False) fp2 W W3 := ⟨(Only.of_below (HB2.out.trans ((ext_alloc W2 _).mono hs2))).trans hfw2.only (fun _ _ h => h), fun k hk => ⟨(hfw2.own k hk).1.elim .inl (fun h => h.elim False.elim (fun h => .inr (.inr (by simp at h; omega)))), (hfw2.own k hk).2⟩⟩
      have Hend := Lib.hid (endX_ret (ts := toldRE (0, []) [] recs) (Jx := Jx) (fp0 := fp) (fq := fq) (tp := tp) Hf1q.out (fun k hk => hk.elim) Hn4.out (by omega) hfw3 hor HT2.out)
      rcases hor with ⟨rfl, _⟩ | ⟨rfl, _⟩
      all_goals
        clear hfw2 hfw3
        gi_wp2_with fail
        exact Hend.out
  case done =>
    rintro D xs fq W hD hxs ⟨T, fp1, row, last, ao', cap', g, lo, lc, gl, hj, ht, hb, hokp, hlen, hn1, hn2, hn3, hn4, hf⟩ honly hfo hlt hnD hk
    have hy0 : W.cell? ⟨w.heap.size, 0, none⟩ = some (.func (.yield ly) #[] #[]) := (honly.cell (by omega) (by
      rintro ((h | h) | h)
      · have := (Hfp.out _ h).1; omega
      · omega
      · exact h) 0).trans Y0.out
    have hon : Only (fun k => fp k ∨ False) w W := (Only.of_below (fp := fun k => fp k ∨ False) HB1.out).trans honly (by
      rintro i hi ((h | h) | h)
      · exact .inl h
      · omega
      · exact .inr h)
    have hT : toldRE (0, []) [] recs = T.map (·.1) ++ if 0 < row.2.length then [(row, 0)] else [] := by
      have := ht []
      rw [List.append_nil, hxs, toldRE_nil] at this
      exact this
    have hfp1 : ∀ k, fp1 k → k < W.heap.size := fun k hk => hlt k ((hf k).2 (.inl hk))
    have hnD1 : ¬ fp1 D := fun h => hnD ((hf D).2 (.inl h))
    have hgD : g ≠ some D := fun h => hnD ((hf D).2 (.inr (.inr (.inl h))))
    have d1 := hb.c1
    have d0 := hb.c0
    have hDW : D < W.heap.size := (Array.getElem?_eq_some_iff.1 hk).1
    obtain ⟨fr, arcs⟩ := row
    simp only at d0 d1 hT hlen
    have HT := Lib.hid hT
    have Hj := Lib.hid hj
    have Hb := Lib.hid hb
    have Hokp := Lib.hid hokp
    have Hn2 := Lib.hid hn2
    have Hn4 := Lib.hid hn4
    have Hon := Lib.hid hon
    have Hfp1 := Lib.hid hfp1
    have HgD := Lib.hid hgD
    have Hk := Lib.hid hk
    clear hT hj hb hokp hn2 hn3 hn4 hon hfp1 hgD hk ht honly hfo hlt hf hxs hlen HV
    dsimp only
    by_cases hn0 : 0 < arcs.length
    · have hT2 : (T ++ [(((fr, arcs), 0), (ao', cap'))] : List EachM).map (·.1) = toldRE (0, []) [] recs := by rw [HT.out]; simp [hn0]
      obtain ⟨fn, tmps, assign, body, hy, hR⟩ := (@_root_.id (YieldAt Fence.wide 0 Try.prog ly #[.agg #[.int .u32 (fr : Nat), .slice ao' arcs.length cap'], .int .i64 0] W _) (HY.out T fp1 (fun k => g = some k) (((fr, arcs), 0), (ao', cap')) W Hj.out
        Hfp1.out (fun k hk => ⟨by have := (Hn2.out k (.inl hk)).2; omega, (Hn2.out k (.inl hk)).2.2, (Hn2.out k (.inl hk)).1⟩) Hon.out (by rw [hT2]; exact List.prefix_refl _)
        ⟨Hb.out.own.capLe.1, Hb.out.own.capLe.2, Hokp.out, Hb.out.own.rd.mono (fun b hb _ => hb.elim (fun h => h.elim) id)⟩))
      have HR := Lib.hid hR
      have HT2 := Lib.hid hT2
      have hd : decide ((0 : Int) < (arcs.length : Int)) = true := by simp; omega
      have hd2 : decide (0 < arcs.length) = true := by simp; omega
      clear hR hT2 hn0
      gi_wp2_with fail
      refine HR.out.mono ?_
      clear hy HR
      rintro e W3 ⟨fp2, hfw2, hor⟩
      have hn2D : ¬ fp2 D := fun h => (hfw2.own D h).1.elim hnD1 (fun h => h.elim HgD.out (fun h => by omega))
      have hs : Stays fp2 W3 (W3.putObj D (.deferred none)) := ⟨rfl, rfl, rfl, by simp, fun k hk => World.putObj_heap_other (fun e => hn2D (e ▸ hk))⟩
      have hon3 : Only (fun k => fp k ∨ False) w W3 := Hon.out.trans hfw2.only (fun i hi h => (Hn4.out i h).elim .inl (fun h => by omega))
      have hk3 : W3.heap[D]? = some (.deferred (some [])) := (hfw2.only.same D hDW hnD1).trans Hk.out
      have hfin : ∀ k, fp2 k → (fp k ∨ w.heap.size ≤ k) ∧ k < (W3.putObj D (.deferred none)).heap.size := fun k hk => ⟨(hfw2.own k hk).1.elim (Hn4.out k) (fun h => h.elim (fun h => .inr (by have := (Hn2.out k (.inl h)).2; omega)) (fun h => .inr (by have := Hon.out.size; omega))), by simpa using (hfw2.own k hk).2⟩
      have Hend := Lib.hid (fun v => IterEnd.mk (It := fun _ => False) (ok := fun pre : List EachM => pre.map (·.1) <+: toldRE (0, []) [] recs) (S := fun xs => xs.map (·.1) = toldRE (0, []) [] recs) (J := J) (Jx := Jx) (v := v) (T ++ [(((fr, arcs), 0), (ao', cap'))]) fp2 (hon3.putObj _ (fun h => by omega)) hfin
        (hor.imp (fun h => ⟨HT2.out, HJ.out _ _ _ _ h.2 hs⟩) (fun h => ⟨by rw [HT2.out]; exact List.prefix_refl _, HJx.out _ _ _ _ h.2 hs⟩)))
      have Hk3 := Lib.hid hk3
      rcases hor with ⟨rfl, _⟩ | ⟨rfl, _⟩
      all_goals
        clear hfw2 hs hon3 hk3 hfin
        gi_wp2_with fail
        exact leaveM1 Hk3.out (results_none rfl _ _ _) (Hend.out _)
    · have hd : decide ((0 : Int) < (arcs.length : Int)) = false := decide_eq_false (by omega)
      have hd2 : decide (0 < arcs.length) = false := decide_eq_false (by omega)
      have HT2 := Lib.hid (show T.map (·.1) = toldRE (0, []) [] recs by rw [HT.out]; simp [hn0])
      clear hn0
      gi_wp2_with fail
      have hs : Stays fp1 W (W.putObj D (.deferred none)) := ⟨rfl, rfl, rfl, by simp, fun k hk => World.putObj_heap_other (fun e => hnD1 (e ▸ hk))⟩
      exact leaveM1 Hk.out (results_none rfl _ _ _) (IterEnd.mk T fp1 (Hon.out.putObj _ (fun h => by omega)) (fun k hk => ⟨Hn4.out k hk, by simpa using Hfp1.out k hk⟩)
        (.inl ⟨HT2.out, HJ.out _ _ _ _ Hj.out hs⟩))
end Go.Proofs.Ytafbjkbdfdeacaa
