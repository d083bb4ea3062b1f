/- Texts merged into one: Vals, Law, MergeEach, MergeRows, MergeRef1. -/
import Derived.Test.YtcklfffeimnfeaaGreatBx09
import Derived.Test.YtcklfffeimnfeaaGreatBx00
import Derived.Test.YtcklfffeimnfeaaGreatProg
import Derived.RegionIn
import Derived.Scope
import Derived.OpenShut
import Derived.SizedLaws
import Derived.JoinedCond
import Derived.Lib.SmallJoins
import Derived.Test.YtcklfffeimnfeaaGreatBx11
import Derived.Test.YtcklfffeimnfeaaGreatBx10
import Derived.StillTailTactics
set_option maxRecDepth 100000
set_option maxHeartbeats 12800000
set_option linter.unusedSimpArgs false
set_option linter.unusedVariables false
namespace Go.Proofs.YtcklfffeimnfeaaGreat
open Go.RowKit

/-- a row of bytes, and the value by which it is told -/
abbrev RowV := List UInt8 × Value
def valsRel (recs : List (List UInt8)) (J : List RowV → (Nat → Prop) → World → Prop) (fp : Nat → Prop) (W : World) (i : Value) (wr : World) : Prop :=
  ∃ (pre : List RowV) (fp1 : Nat → Prop) (k : Nat), i = .int .i64 k ∧ k ≤ recs.length ∧ pre.map (·.1) = recs.take k ∧ J pre fp1 wr ∧ Fwd (fun k => fp k ∨ False) fp1 W wr ∧ (∀ k, fp1 k → fp k ∨ W.heap.size ≤ k)
/-- how a row is told -/
def rowAt (rfp : Nat → Prop) (x : RowV) (W : World) : Prop := ∃ ao cap, x.2 = .slice ao x.1.length cap ∧ x.1.length ≤ cap ∧ cap ≤ maxLen ∧ RdS Rep.u8 rfp W ao x.1

attribute [local go_sem] Oper.semAt_some

theorem vals_iter (b : Nat) (recs : List (List UInt8)) (ao : Option Addr) (cap : Nat) (rfp : Nat → Prop) (hl : recs.length ≤ 1073741824) :
    IterR Tryz.prog 109 #[.pointer (some ⟨b, 0, none⟩)] (fun x => #[x.2]) (fun pre => pre.map (·.1) <+: recs) (fun xs => xs.map (·.1) = recs) (fun _ => True)
      (fun pre x W => rowAt rfp x W ∧ recs[pre.length]? = some x.1)
      (fun W => W.cell? ⟨b, 0, none⟩ = some (.slice ao recs.length cap) ∧ RdS (Rep.slice Rep.u8) rfp W ao recs) (fun k => k = b ∨ rfp k) (fun _ => False) := by
  rintro ly J Jx fp W ⟨hc, hrd⟩ hfp hJ hJx _ hY h0
  have hb : b < W.heap.size := World.block_lt_of_cell? W _ hc
  have HJ := Lib.hid hJ
  have HJx := Lib.hid hJx
  have HY := Lib.hid hY
  have H0 : Hid (valsRel recs J fp W (.int .i64 0) W) := ⟨[], fp, 0, rfl, by omega, by simp, h0, (Fwd.refl (fun k hk => (hfp k hk).1)).wider (fun k hk => .inl hk), fun k hk => .inl hk⟩
  have Hfp := Lib.hid hfp
  have Hc := Lib.hid hc
  have Hrd := Lib.hid hrd
  clear hJ hJx hY h0 hfp hc hrd
  refine callsIn_of_wp Tryz.func109 rfl trivial ?_
  simp only [Tryz.ntmps109, List.size_toArray, List.length_cons, List.length_nil, Nat.reduceAdd, Nat.reduceSub, Array.replicate_succ, Array.replicate_zero, List.push_toArray, List.append_toArray, List.nil_append, List.cons_append]
  have hc := Hc.out
  gi_wp2_with fail
  clear hc
  gi_loopw [7] (fun i wr => valsRel recs J fp W i wr) (fun i _ => recs.length - (intOf i).toNat)
  case atStart => exact H0.out
  case round =>
    obtain ⟨pre, fp1, k, rfl, hk, hpre, hj, hfw, hfo⟩ := hrel
    have hpl : pre.length = k := by
      have := congrArg List.length hpre
      simpa [Nat.min_eq_left hk] using this
    have hon : ∀ j, (j = b ∨ rfp j) → ¬ (fp j ∨ False) := fun j hj h => h.elim (fun h => (Hfp.out j h).2 hj) id
    have hrd := Hrd.out.only hfw.only (fun j hj _ => hon j (.inr hj))
    have Hj := Lib.hid hj
    have Hfw := Lib.hid hfw
    have Hfo := Lib.hid hfo
    have Hpre := Lib.hid hpre
    have Hpl := Lib.hid hpl
    clear hj hfw hfo hpre hpl hon
    by_cases hlt : k < recs.length
    · obtain ⟨bb, off, cs, rfl, _, hbb, ⟨ra, rc, rfl, hrc1, hrc2, hrr⟩, hcell⟩ := hrd.at k hlt
      have hce := hcell 0 Nat.one_pos
      simp only [Rep.slice, Nat.mul_one, Nat.add_zero, List.getElem?_cons_zero] at hce
      have hir : (k : Int) < (recs.length : Int) := by omega
      have hgk : recs[k]? = some recs[k] := List.getElem?_eq_getElem hlt
      have htk : recs.take (k + 1) = recs.take k ++ [recs[k]] := by rw [List.take_add_one, hgk]; rfl
      obtain ⟨r, hr⟩ : ∃ r, recs[k] = r := ⟨_, rfl⟩
      rw [hr] at hce hrr hrc1 hgk htk
      obtain ⟨fn, tmps, assign, body, hy, hR⟩ := HY.out pre fp1 (r, .slice ra r.length rc) wr Hj.out (fun k hk => (Hfw.out.own k hk).2) Hfw.out.only
        (by rw [List.map_append, Hpre.out]; show recs.take k ++ [r] <+: recs; rw [← htk]; exact List.take_prefix _ _)
        ⟨⟨ra, rc, rfl, hrc1, hrc2, hrr⟩, by rw [Hpl.out]; exact hgk⟩
      have HR := Lib.hid hR
      have Htk := Lib.hid htk
      have Hrr := Lib.hid hrr
      clear hR htk hrr hgk hr hcell hrd hrc1
      gi_wp2_with fail
      refine HR.out.mono ?_
      clear hy HR
      rintro e W2 ⟨fp2, hfw2, (⟨rfl, hj2⟩ | ⟨rfl, hjx2⟩)⟩
      · have Hj2 := Lib.hid hj2
        have Hfw2 := Lib.hid hfw2
        clear hj2 hfw2
        gi_wp2_with fail
        go_roundw
        case rel =>
          exact ⟨pre ++ [(r, .slice ra r.length rc)], fp2, k + 1, by go_num, by omega, by rw [List.map_append, Hpre.out, Htk.out]; rfl, Hj2.out, Hfw.out.trans Hfw2.out,
            fun k hk => ((Hfw2.out.own k hk).1).elim (Hfo.out k) (fun h => .inr (Nat.le_trans Hfw.out.only.size h))⟩
        case measure => simp [intOf]; omega
      · have Hjx2 := Lib.hid hjx2
        have Hfw2 := Lib.hid hfw2
        clear hjx2 hfw2
        gi_wp2_with fail
        refine bodyPost_ret (results_none rfl _ _ _) rfl ?_
        exact ⟨⟨_, rfl⟩, pre ++ [(r, .slice ra r.length rc)], fp2, Hfw.out.trans Hfw2.out, (fun k hk => ((Hfw2.out.own k hk).1).elim (Hfo.out k) (fun h => .inr (Nat.le_trans Hfw.out.only.size h))),
          .inr ⟨by rw [List.map_append, Hpre.out]; show recs.take k ++ [r] <+: recs; rw [← Htk.out]; exact List.take_prefix _ _, Hjx2.out⟩⟩
    · obtain rfl : k = recs.length := by omega
      clear hrd
      gi_wp2_with fail
      go_end0
      exact ⟨⟨_, rfl⟩, pre, fp1, Hfw.out, Hfo.out, .inl ⟨by rw [Hpre.out, List.take_length], Hj.out⟩⟩

theorem vals_any (ao : Option Addr) (n cap : Nat) (w : World) :
    Calls Tryz.prog 66 #[.slice ao n cap] w fun e w' => e = .returned (.func (.func 109) #[] #[.pointer (some ⟨w.heap.size, 0, none⟩)]) ∧ w' = w.alloc (.cells #[.slice ao n cap] 65) := by
  have hmf : ∀ (fn : Fn) (first cap : Array Value) (w : World), (Instr.makeFunc fn first cap).run Tryz.prog w = .ok (.func fn first cap) w := fun _ _ _ _ => rfl
  go_enter Tryz.func66, Tryz.ntmps66
  go_wp2
  go_ret
  exact ⟨rfl, rfl⟩
end Go.Proofs.YtcklfffeimnfeaaGreat

namespace Go.Proofs.YtcklfffeimnfeaaGreat
open Go.RowKit Go.ChangeShapes Go.WideShapes
variable {H : Type} {enc : TypeId × Value → H}

theorem trodAll_below {P : Program} {W W' : World} (hl : laidOutB P = true) (hb : Below W.heap.size W W') :
    ∀ (ts : List TypeId) (vs : List Value) (ds : List (DataW H)) (ps : List MemPlace), (ts.all fun t => P.readableRec t && decide (t < P.types.size)) = true →
      DataW.TrodAll enc P W 0 (fun _ => true) true ts vs ds ps → (∀ x ∈ ps, x.block < W.heap.size) →
      DataW.TrodAll enc P W' 0 (fun b => decide (b < W.heap.size)) true ts vs ds ps
  | [], [], [], _, _, h, _ => h
  | t :: ts, v :: vs, d :: ds, ps, hr, ⟨p, q, h1, h2, e⟩, hlt => by
    subst e
    simp only [List.all_cons, Bool.and_eq_true, decide_eq_true_eq] at hr
    exact ⟨p, q, Below.trod hl hr.1.1 hr.1.2 h1 hb (fun x hx => hlt x (List.mem_append_left _ hx)),
      trodAll_below hl hb ts vs ds q hr.2 h2 (fun x hx => hlt x (List.mem_append_right _ hx)), rfl⟩
  | [], _ :: _, _, _, _, h, _ => h.elim
  | [], [], _ :: _, _, _, h, _ => h.elim
  | _ :: _, [], _, _, _, h, _ => h.elim
  | _ :: _, _ :: _, [], _, _, h, _ => h.elim

theorem trodAll_length {P : Program} {W : World} {b : Nat} {sp : Nat → Bool} {hd : Bool} :
    ∀ (ts : List TypeId) (vs : List Value) (ds : List (DataW H)) (ps : List MemPlace), DataW.TrodAll enc P W b sp hd ts vs ds ps → ds.length = ts.length
  | [], [], [], _, _ => rfl
  | _ :: ts, _ :: vs, _ :: ds, _, ⟨_, q, _, h2, _⟩ => by simp [trodAll_length ts vs ds q h2]
  | [], _ :: _, _, _, h => h.elim
  | [], [], _ :: _, _, h => h.elim
  | _ :: _, [], _, _, h => h.elim
  | _ :: _, _ :: _, [], _, h => h.elim

/-- What a law's specification is: true, and the input as it was. -/
def IsLaw (s : ChangeSpec) (n : Nat) : Prop :=
  s.vars = [] ∧ ∀ (H : Type) (ds : List (DataW H)), ds.length = n → (s.fn H ds).results = [.lit (.bool true)] ∧ (s.fn H ds).args = ds ∧ (s.fn H ds).vars = []

theorem law_post {P : Program} {fn : Func} {s : ChangeSpec} {rt : TypeId} (hs : IsLaw s fn.params.size) (hl : laidOutB P = true)
    (hr : (fn.params.toList.all fun t => P.readableRec t && decide (t < P.types.size)) = true) (hres : fn.resultTypes = #[rt]) (hb : P.underlying rt = some .bool)
    {W W' : World} {args : Array Value} {ds gs : List (DataW H)} {before : List MemPlace} (hW : DataW.Whole enc P fn.params.toList s.vars false W args.toList ds gs before) (hB : Below W.heap.size W W') :
    s.post enc P fn false true false false W args (.bool true) W' := by
  have hW' := hW
  obtain ⟨p, q, hA, hV, hps, hfz, hnd⟩ := hW
  obtain ⟨hv, hsp⟩ := hs
  have hlen := trodAll_length _ _ _ _ hA
  rw [hv] at hV
  match gs, hV with
  | [], hq =>
    obtain rfl : q = [] := hq
    simp only [List.append_nil] at hps
    subst hps
    obtain ⟨e1, e2, e3⟩ := hsp H ds (by simpa using hlen)
    refine ⟨ds, [], before, [], before, [], hW', ?_, ?_, ?_, hB.frame _, fun h => by cases h⟩
    · rw [List.append_nil, e1, hres]
      exact trodAll_mk1 (shut_bool hb _)
    · rw [List.append_nil, e2]
      exact trodAll_below hl hB _ _ _ _ hr hA (fun x hx => by simpa using hW'.lt x hx)
    · rw [List.append_nil, e3, hv]
      exact rfl

/-- **The law's row, from its walk.** -/
theorem law_lifted {C : Checked} {os : Os} {f : FuncId} {fn : Func} {s : ChangeSpec} {rt : TypeId}
    (own : ownKnob C.prog.godebug = none) (started : os.Started) (noInit : C.prog.inits.idxOf? f = none) (hfn : C.prog.funcs[f]? = some fn)
    (hs : IsLaw s fn.params.size) (hl : laidOutB C.prog = true)
    (hr : (fn.params.toList.all fun t => C.prog.readableRec t && decide (t < C.prog.types.size)) = true) (hres : fn.resultTypes = #[rt]) (hb : C.prog.underlying rt = some .bool)
    (witness : ∃ (w : World) (tape : Tape) (i : Input), w.os = os ∧ (w.forCall tape i).Shaped C.prog ∧ i.vars = [] ∧ Input.okWide C.prog (w.forCall tape i) .any w.heap.size f i ∧
      s.pre6 enc C.prog fn [] false (w.forCall tape i).memory i.args ∧ ({} : Assume).holds C.prog (lone (Frame.enter C.prog f i.args .normal) [] (w.forCall tape i)))
    (walk : ∀ (W : World) (base : Nat) (args : Array Value) (ds : List (DataW H)) (ps : List MemPlace),
      (∀ (j : Nat) t v, fn.params[j]? = some t → args[j]? = some v → Value.okWide C.prog W .any base t v) →
      DataW.TrodAll enc C.prog W 0 (fun _ => true) true fn.params.toList args.toList ds ps →
      (∀ x ∈ ps, x.block < W.heap.size) → W.noneFrozen ps →
      (DataW.weightsEach C.prog fn.params.toList ds).all (· ≤ reachBytes) = true →
      Calls C.prog f args W fun e W' => e = .returned (.bool true) ∧ Below W.heap.size W W') :
    ReturnsInHanded {} C os f .any (s.pre6 enc C.prog fn [] false) (s.post enc C.prog fn false true false false) := by
  refine returnsInHanded_of_change_sized own started noInit hfn witness ?_
  intro W base args ds gs before hval hW _ hsz _
  have hW0 := hW
  obtain ⟨p, q, hA, hV, hps, hfz, hnd⟩ := hW
  have hv := hs.1
  rw [hv] at hV
  match gs, hV with
  | [], hq =>
    obtain rfl : q = [] := hq
    simp only [List.append_nil] at hps
    subst hps
    refine (walk W base args ds before hval hA (fun x hx => by simpa using hW0.lt x hx) hfz ?_).mono fun e W' ⟨he, hB⟩ => ⟨_, he, law_post hs hl hr hres hb hW0 hB⟩
    simpa [ChangeSpec.plain, hv, DataSpec.varTypes] using hsz
end Go.Proofs.YtcklfffeimnfeaaGreat

namespace Go.Proofs.YtcklfffeimnfeaaGreat
open Go.RowKit

/-- a row or an error, and the values by which it is told -/
abbrev EachM := (RowD × Nat) × (Option Addr × Nat)
def encM (x : EachM) : Array Value := #[.agg #[.int .u32 (x.1.1.1 : Nat), .slice x.2.1 x.1.1.2.length x.2.2], .int .i64 (x.1.2 : Nat)]
def toldM (tp : Nat → Prop) (x : EachM) (W : World) : Prop :=
  x.1.1.2.length ≤ x.2.2 ∧ x.2.2 ≤ maxLen ∧ okRow x.1.1 ∧ RdS arcRep tp W x.2.1 x.1.1.2
theorem MG.stays {fp : Nat → Prop} {W W' : World} {m : Nat} {row : RowD} {last : List UInt8} {ao : Option Addr} {cap : Nat} {g : Option Nat} {lo : Option Addr} {lc : Nat} (h : MG m row last ao cap g lo lc W) (hs : Stays fp W W') (hm : fp m) (hg : ∀ k, g = some k → fp k)
    (hl : 0 < last.length → ∀ b off, lo = some ⟨b, off, none⟩ → fp b) : MG m row last ao cap g lo lc W' := by
  refine ⟨(hs.cell hm 0).trans h.c0, (hs.cell hm 1).trans h.c1, (hs.cell hm 2).trans h.c2, (hs.frozen hm 0).trans h.f0, (hs.frozen hm 1).trans h.f1, (hs.frozen hm 2).trans h.f2, h.own.stays hs (fun b hb _ => hb.elim (fun h => h.elim) (hg b)), ⟨h.rd.1, ?_⟩, Nat.lt_of_lt_of_le h.lt hs.size, h.ne, h.lne⟩
  rcases Nat.eq_zero_or_pos last.length with h0 | h0
  · exact .inl h0
  · obtain ⟨b, off, e, hb, hc⟩ := h.rd.pos h0
    exact .inr ⟨b, off, e, Nat.lt_of_lt_of_le hb hs.size, fun j hj => (hs.cell (hl h0 b off e) _).trans (hc j hj)⟩
/-- the key that was taken last is kept -/
theorem MG.keepLast {W : World} {m : Nat} {row : RowD} {last r : List UInt8} {ao : Option Addr} {cap : Nat} {g : Option Nat} {lo : Option Addr} {lc : Nat} (h : MG m row last ao cap g lo lc W) {ao4 : Option Addr} {cap4 : Nat} {g4 : Option Nat} {e : TypeId}
    (ho : Own W ao4 cap4 g4 e 1 r.length (byteVals r)) (hm : g4 ≠ some m) (hg : ∀ k, g4 = some k → g ≠ some k) : MG m row r ao cap g ao4 cap4 (W.setCell ⟨m, 2, none⟩ (.slice ao4 r.length cap4)) := by
  have hon : Only (fun k => k = m) W (W.setCell ⟨m, 2, none⟩ (.slice ao4 r.length cap4)) := (Only.refl (fun k => k = m) W).setCell (p := ⟨m, 2, none⟩) (fun _ => rfl) _
  refine ⟨?_, ?_, World.cell?_setCell_same _ _ _ h.c2, (World.frozen?_setCell ..).trans h.f0, (World.frozen?_setCell ..).trans h.f1, (World.frozen?_setCell ..).trans h.f2, h.own.only hon (fun b hb _ e => ?_), ?_, by simpa using h.lt, h.ne, fun b off e h0 => ?_⟩
  · rw [World.cell?_setCell_other _ _ _ _ (by simp)]; exact h.c0
  · rw [World.cell?_setCell_other _ _ _ _ (by simp)]; exact h.c1
  · subst e; rcases hb with h1 | h1
    · exact h1
    · exact h.ne h1
  · exact (ho.setCell (p := ⟨m, 2, none⟩) (fun b hb e => by subst e; exact hm hb) _).rd
  · rcases ho.addr with ⟨h1, _⟩ | ⟨b', h1, h2, _⟩
    · rw [h1] at e; cases e
    · rw [h2] at e; cases e
      exact ⟨fun e => hm (by rw [h1, e]), hg _ h1⟩

def eachMI (recs : List (List UInt8)) (J : List EachM → (Nat → Prop) → World → Prop) (fp0 : Nat → Prop) (H0 B H1 : Nat) (pre : List RowV) (fq : Nat → Prop) (W : World) : Prop :=
  ∃ (T : List EachM) (fp1 : Nat → Prop) (row : RowD) (last : List UInt8) (ao : Option Addr) (cap : Nat) (g : Option Nat) (lo : Option Addr) (lc : Nat) (gl : Option Nat),
    J T fp1 W ∧ (∀ rest, toldRE (0, []) [] (pre.map (·.1) ++ rest) = T.map (·.1) ++ toldRE row last rest) ∧ MG B row last ao cap g lo lc W ∧ okRow row ∧ row.2.length ≤ pre.length ∧
    ¬ fp1 B ∧ (∀ k, (g = some k ∨ gl = some k) → ¬ fp1 k ∧ H1 ≤ k ∧ k < W.heap.size) ∧ (0 < last.length → ∀ b off, lo = some ⟨b, off, none⟩ → gl = some b) ∧ (∀ k, fp1 k → fp0 k ∨ H0 ≤ k) ∧ (∀ k, fq k ↔ (fp1 k ∨ k = B ∨ g = some k ∨ gl = some k))
/-- how it is left: all told, or stopped -/
def endX {δ ε : Type} (ts : List δ) (J Jx : List (δ × ε) → (Nat → Prop) → World → Prop) (fp0 : Nat → Prop) (H0 : Nat) (c : Code) (fq : Nat → Prop) (W : World) : Prop :=
  c = .ret ∧ ∃ (T : List (δ × ε)) (fp1 : Nat → Prop), ((T.map (·.1) = ts ∧ J T fp1 W) ∨ (T.map (·.1) <+: ts ∧ Jx T fp1 W)) ∧ (∀ k, fp1 k → fp0 k ∨ H0 ≤ k) ∧ (∀ k, fp1 k → fq k)
theorem endX_own {fp0 fp1 fp2 fq tp tpy : Nat → Prop} {H0 : Nat} {W W2 : World} (hf1 : ∀ k, fp1 k → fq k) (hft : ∀ k, tpy k → fq k ∧ H0 ≤ k)
    (hn : ∀ k, fp1 k → fp0 k ∨ H0 ≤ k) (hH : H0 ≤ W.heap.size) (hfw : FwdT fp1 tpy fp2 W W2) : FwdT fq tp fp2 W W2 ∧ (∀ k, fp2 k → fp0 k ∨ H0 ≤ k) := by
  refine ⟨⟨hfw.only.mono (fun k _ hk => hf1 k hk), fun k hk => ⟨?_, (hfw.own k hk).2⟩⟩, fun k hk => ?_⟩
  · rcases (hfw.own k hk).1 with h | h | h
    · exact .inl (hf1 k h)
    · exact .inl (hft k h).1
    · exact .inr (.inr h)
  · rcases (hfw.own k hk).1 with h | h | h
    · exact hn k h
    · exact .inr (hft k h).2
    · exact .inr (by omega)
theorem endX_ret {δ ε : Type} {ts : List δ} {J Jx : List (δ × ε) → (Nat → Prop) → World → Prop} {fp0 fp1 fp2 fq tp tpy : Nat → Prop} {H0 : Nat} {W W2 : World} {T : List (δ × ε)} {e : Ending} (hf1 : ∀ k, fp1 k → fq k) (hft : ∀ k, tpy k → fq k ∧ H0 ≤ k)
    (hn : ∀ k, fp1 k → fp0 k ∨ H0 ≤ k) (hH : H0 ≤ W.heap.size) (hfw : FwdT fp1 tpy fp2 W W2) (hor : (e = .returned (.bool true) ∧ J T fp2 W2) ∨ (e = .returned (.bool false) ∧ Jx T fp2 W2)) (hT : T.map (·.1) = ts) :
    ∃ fp', FwdT fq tp fp' W W2 ∧ endX ts J Jx fp0 H0 .ret fp' W2 := by
  obtain ⟨h1, h2⟩ := endX_own (tp := tp) hf1 hft hn hH hfw
  refine ⟨fp2, h1, rfl, T, fp2, ?_, h2, fun k hk => hk⟩
  rcases hor with ⟨_, h⟩ | ⟨_, h⟩
  · exact .inl ⟨hT, h⟩
  · exact .inr ⟨by rw [hT]; exact List.prefix_refl _, h⟩
theorem endX_stop {δ ε : Type} {ts : List δ} {J Jx : List (δ × ε) → (Nat → Prop) → World → Prop} {fp0 fp1 fp2 fq tp tpy : Nat → Prop} {H0 : Nat} {W W2 : World} {T : List (δ × ε)} (hf1 : ∀ k, fp1 k → fq k) (hft : ∀ k, tpy k → fq k ∧ H0 ≤ k)
    (hn : ∀ k, fp1 k → fp0 k ∨ H0 ≤ k) (hH : H0 ≤ W.heap.size) (hfw : FwdT fp1 tpy fp2 W W2) (hjx : Jx T fp2 W2) (hT : T.map (·.1) <+: ts) :
    ∃ fp', FwdT fq tp fp' W W2 ∧ endX ts J Jx fp0 H0 .ret fp' W2 := by
  obtain ⟨h1, h2⟩ := endX_own (tp := tp) hf1 hft hn hH hfw
  exact ⟨fp2, h1, rfl, T, fp2, .inr ⟨hT, hjx⟩, h2, fun k hk => hk⟩

attribute [local go_sem] Oper.semAt_some

theorem each14_iter (eb b : Nat) (recs : List (List UInt8)) (ao : Option Addr) (cap : Nat) (rfp : Nat → Prop) (hl : recs.length ≤ 1073741824) :
    IterT Tryz.prog 104 #[.pointer (some ⟨eb, 0, none⟩)] encM (fun pre => pre.map (·.1) <+: toldRE (0, []) [] recs) (fun xs => xs.map (·.1) = toldRE (0, []) [] recs) (fun _ => True)
      (fun pre x tp W => toldM tp x W)
      (fun W => W.cell? ⟨eb, 0, none⟩ = some (.func (.func 109) #[] #[.pointer (some ⟨b, 0, none⟩)]) ∧ W.cell? ⟨b, 0, none⟩ = some (.slice ao recs.length cap) ∧ RdS (Rep.slice Rep.u8) rfp W ao recs ∧ ∀ k, rfp k → k < W.heap.size)
      (fun k => k = eb ∨ k = b ∨ rfp k) (fun _ => False) := by
  rintro ly J Jx fp w ⟨hce, hcb, hrd, hrl⟩ hfp hJ hJx _ hY h0
  have hq : ∀ (fn : Fn) (a b : Array Value) (w : World), (binOp .eql 124 (.func fn a b) .nilFunc).run Tryz.prog w = .ok (.bool false) w := fun _ _ _ _ => by kernel_rfl
  have heb : eb < w.heap.size := World.block_lt_of_cell? w _ hce
  have hbb : b < w.heap.size := World.block_lt_of_cell? w _ hcb
  have HJ := Lib.hid hJ
  have HJx := Lib.hid hJx
  have HY := Lib.hid hY
  have Hfp := Lib.hid hfp
  have Hcb := Lib.hid hcb
  have Hrd := Lib.hid hrd
  have Hrl := Lib.hid hrl
  have H0 := Lib.hid h0
  clear hJ hJx hY hfp hcb hrd hrl h0
  refine callsIn_of_wp_marks Tryz.func104 rfl trivial ?_
  simp only [Tryz.ntmps104, List.size_toArray, List.length_cons, List.length_nil, Nat.reduceAdd, Nat.reduceSub, Array.replicate_succ, Array.replicate_zero, List.push_toArray, List.append_toArray, List.nil_append, List.cons_append]
  gi_wp2_with fail
  obtain ⟨w1, hw1⟩ : ∃ w1, (w.alloc (Obj.cells #[Value.func (Fn.yield ly) #[] #[]] 162)).alloc (Obj.cells #[Value.int IntKind.u32 0, Value.slice none 0 0, Value.slice none 0 0] 164) = w1 := ⟨_, rfl⟩
  have y0 : w1.cell? ⟨w.heap.size, 0, none⟩ = some (.func (.yield ly) #[] #[]) := by rw [← hw1]; simp [go_sem, ↓IntWalk.iteOmega]
  have hb0 : MG (w.heap.size + 1) (0, []) [] none 0 none none 0 w1 := by
    rw [← hw1]
    exact ⟨by simp [go_sem, ↓IntWalk.iteOmega], by simp [go_sem, ↓IntWalk.iteOmega], by simp [go_sem, ↓IntWalk.iteOmega], by simp [go_sem, ↓IntWalk.iteOmega], by simp [go_sem, ↓IntWalk.iteOmega], by simp [go_sem, ↓IntWalk.iteOmega], OwnS.nil _ _ _ _, ⟨rfl, .inl rfl⟩, by simp, by simp, fun _ _ e _ => by cases e⟩
  have hs1 : w1.heap.size = w.heap.size + 2 := by rw [← hw1]; simp
  have hB1 : Below w.heap.size w w1 := by rw [← hw1]; exact (ext_alloc w _).alloc (by simp) _
  rw [hw1]
  have Y0 := Lib.hid y0
  have Hb0 := Lib.hid hb0
  have HB1 := Lib.hid hB1
  have Hs1 := Lib.hid hs1
  have hs1' : w.heap.size + 2 ≤ w1.heap.size := by omega
  clear hw1 y0 hb0 hB1 hs1
  have HV := vals_iter b recs ao cap rfp hl
  refine wpIn_rangeTS (gf := 109) (lb := #[.pointer (some ⟨b, 0, none⟩)]) rfl (enters_of Tryz.func109 (by kernel_rfl) rfl) HV.toT (fun _ => rfl)
    (fun k => fp k ∨ k = w.heap.size + 1) ?hfp ?hrs (fun k h => h.elim)
    (fun pre fq W => eachMI recs J fp w.heap.size (w.heap.size + 1) w1.heap.size pre fq W) (fun c pre fq W => endX (toldRE (0, []) [] recs) J Jx fp w.heap.size c fq W) ?hI ?hIx (fun _ _ _ _ => trivial) ?hPre ?h0
    [(12, fun x : RowV => x.2), (4, fun x : RowV => x.2)] ?assign ?body ?done ?stop
  case hfp =>
    rintro k (h | rfl)
    · exact ⟨by have := (Hfp.out k h).1; omega, fun hr => (Hfp.out k h).2 (.inr hr)⟩
    · refine ⟨by omega, fun hr => ?_⟩
      rcases hr with hr | hr
      · omega
      · have := Hrl.out _ hr; omega
  case hrs =>
    rintro k (rfl | h)
    · omega
    · have := Hrl.out _ h; omega
  case hI =>
    rintro pre fq A B ⟨T, fp1, row, last, ao, cap, g, lo, lc, gl, hj, ht, hb, hok, hlen, hn1, hn2, hn3, hn4, hf⟩ hs
    exact ⟨T, fp1, row, last, ao, cap, g, lo, lc, gl, HJ.out _ _ _ _ hj (hs.mono fun k hk => (hf k).2 (.inl hk)), ht, hb.stays hs ((hf _).2 (.inr (.inl rfl))) (fun k hk => (hf k).2 (.inr (.inr (.inl hk)))) (fun h0 b off e => (hf b).2 (.inr (.inr (.inr (hn3 h0 b off e))))), hok, hlen, hn1,
      fun k hk => ⟨(hn2 k hk).1, (hn2 k hk).2.1, Nat.lt_of_lt_of_le (hn2 k hk).2.2 hs.size⟩, hn3, hn4, hf⟩
  case hIx =>
    rintro c pre fq A B ⟨rfl, T, fp1, hj, hn, hf⟩ hs
    have hs' : Stays fp1 A B := hs.mono fun k hk => hf k hk
    exact ⟨rfl, T, fp1, hj.imp (fun h => ⟨h.1, HJ.out _ _ _ _ h.2 hs'⟩) (fun h => ⟨h.1, HJx.out _ _ _ _ h.2 hs'⟩), hn, hf⟩
  case hPre =>
    intro W hb
    exact ⟨(hb.cell (p := ⟨b, 0, none⟩) (by show b < w1.heap.size; omega)).trans ((HB1.out.cell (p := ⟨b, 0, none⟩) hbb).trans Hcb.out), (Hrd.out.ext HB1.out).ext hb⟩
  case h0 =>
    refine ⟨[], fp, (0, []), [], none, 0, none, none, 0, none, J_ext HJ.out H0.out (fun k hk => (Hfp.out k hk).1) HB1.out, fun rest => by simp, Hb0.out, ⟨by simp, by simp, by simp [sumA]⟩, by simp, fun h => ?_, by simp, by simp, fun k hk => .inl hk, fun k => by simp⟩
    have := (Hfp.out _ h).1
    omega
  case assign =>
    intro l x W K hK
    gi_wp2
    exact hK
  case stop =>
    rintro D c xs fq W hD _ ⟨rfl, T, fp1, hj, hn, hf⟩ honly hfo hlt hnD hk
    gi_wp2
    have hs : Stays fp1 W (W.putObj D (.deferred none)) := ⟨rfl, rfl, rfl, by simp, fun k hk => World.putObj_heap_other (fun e => hnD (e ▸ hf k hk))⟩
    refine leaveM1 hk (results_none rfl _ _ _) (IterEnd.mk T fp1 ?_ (fun k hk => ⟨hn k hk, by simpa using hlt k (hf k hk)⟩) (hj.imp (fun h => ⟨h.1, HJ.out _ _ _ _ h.2 hs⟩) (fun h => ⟨h.1, HJx.out _ _ _ _ h.2 hs⟩)))
    refine ((Only.of_below (fp := fun k => fp k ∨ False) HB1.out).trans honly ?_).putObj _ (fun h => by omega)
    rintro i hi ((h | h) | h)
    · exact .inl h
    · omega
    · exact .inr h
  case body =>
    rintro l0 pre fq tp x W Wy hl0 hr0 honly hok ⟨htp, ⟨ra, rc, hx2, hrc1, hrc2, hrr⟩, hgk⟩ ho0 hnl hflt htp2 ⟨T, fp1, row, last, ao', cap', g, lo, lc, gl, hj, ht, hb, hokp, hlen, hn1, hn2, hn3, hn4, hf⟩ hsz
    obtain ⟨r, xv⟩ := x
    simp only at hx2 hrc1 hrr
    subst hx2
    obtain ⟨rest, hrest⟩ := hok
    rw [List.map_append, List.append_assoc] at hrest
    have htold : toldRE (0, []) [] recs = T.map (·.1) ++ toldRE row last (r :: rest) := by rw [← hrest]; exact ht _
    have hB1s := HB1.out.size
    have hy0 : W.cell? ⟨w.heap.size, 0, none⟩ = some (.func (.yield ly) #[] #[]) := (honly.cell (by omega) (by
      rintro ((h | h) | h)
      · have := (Hfp.out _ h).1; omega
      · omega
      · exact h) 0).trans Y0.out
    have hon : Only (fun k => fp k ∨ False) w W := (Only.of_below (fp := fun k => fp k ∨ False) HB1.out).trans honly (by
      rintro i hi ((h | h) | h)
      · exact .inl h
      · omega
      · exact .inr h)
    have hrdS : RdS Rep.u8 rfp W ra r := hrr.only ho0 (fun k hk _ e => by have := Hrl.out k hk; omega)
    have hrdl : Rd W ra r.length (byteVals r) := hrdS.rdU8
    have hrf : 0 < r.length → ∀ b off, ra = some ⟨b, off, none⟩ → rfp b := fun h0 b off e => by
      rcases hrdS with h | ⟨b', off', h1, h2, _⟩
      · subst h; simp at h0
      · rw [e] at h1; cases h1; exact h2
    have hfp1 : ∀ k, fp1 k → k < W.heap.size := fun k hk => hflt k ((hf k).2 (.inl hk))
    have hf1q : ∀ k, fp1 k → fq k := fun k hk => (hf k).2 (.inl hk)
    have hprel : pre.length < 1073741824 := by
      have := congrArg List.length hrest
      simp at this; omega
    have hWs : w1.heap.size ≤ W.heap.size := honly.size
    have hMay := gmay14_any (w.heap.size + 1) row last r ao' cap' g lo lc ra rc W hb hrdl (by omega) hokp.2.2
    have hxo := keyE_ok r
    have hTb := toldRE_bad row last r rest
    have hTg := fun l => toldRE_ok row last r l
    have hmo := fun h => may_ok (row := row) (last := last) (k := r) h
    have hkg : ∀ k, keyE r = k → keyE r = k := fun _ h => h
    clear hkg
    generalize mayErr row last r = er at hMay hTb hTg hmo
    have hFull := fun W' h => full_any (w.heap.size + 1) row last ao' cap' lo lc (keyE r) W' h
    have hFn := full_not (row := row) (x := keyE r)
    generalize keyE r = x at hMay hxo hTg hmo hFull hFn
    generalize fullB row x = fb at hTg hFull hFn
    have HF := Lib.hid hf
    have HT := Lib.hid ht
    have HTo := Lib.hid htold
    have Hj := Lib.hid hj
    have Hb := Lib.hid hb
    have Hokp := Lib.hid hokp
    have Hn2 := Lib.hid hn2
    have Hn3 := Lib.hid hn3
    have Hn4 := Lib.hid hn4
    have Hon := Lib.hid hon
    have Hrest := Lib.hid hrest
    have Hfp1 := Lib.hid hfp1
    have Hf1q := Lib.hid hf1q
    have Hflt := Lib.hid hflt
    have HTb := Lib.hid hTb
    have HTg := Lib.hid hTg
    have Hmo := Lib.hid hmo
    have HMay := Lib.hid hMay
    have HFull := Lib.hid hFull
    have HFn := Lib.hid hFn
    have Hxo := Lib.hid hxo
    have Hrd1 := Lib.hid hrdl
    have Hrf := Lib.hid hrf
    have Hlen := Lib.hid hlen
    have Hprel := Lib.hid hprel
    have Hy0 := Lib.hid hy0
    have hWY : w.heap.size < W.heap.size := by omega
    have hWB : w.heap.size + 1 < W.heap.size := by omega
    clear hf ht htold hj hb hokp hn2 hn3 hn4 hon hrest htp htp2 hgk ho0 honly hrr hrc2 hrc1 hfp1 hf1q hflt HV hr0 hl0 hnl hrdS hrdl hrf hTb hTg hmo hMay hFull hFn hxo hlen hprel hy0
    obtain ⟨x0, x1, x2⟩ := x
    obtain ⟨fr, arcs⟩ := row
    simp only [edgeV] at HMay HFull
    by_cases her : er = 0
    · subst her
      obtain ⟨h12, hx2z, hcmp, hleft⟩ := Hmo.out rfl
      have hmay0 := HMay.out
      rw [show ((0 : Nat) : Int) = 0 from rfl] at hmay0
      have HMay := Lib.hid hmay0
      have H12 := Lib.hid h12
      have Hleft := Lib.hid hleft
      have HFq : Hid (∀ k, fq k → ¬ rfp k) := Lib.hid (fun k hk hr => by
        have h1 := Hrl.out k hr
        rcases (HF.out k).1 hk with h | h | h | h
        · rcases Hn4.out k h with h2 | h2
          · exact (Hfp.out k h2).2 (.inr (.inr hr))
          · omega
        · omega
        · have := (Hn2.out k (.inl h)).2.1; omega
        · have := (Hn2.out k (.inr h)).2.1; omega)
      have hfin : ∀ (T' : List EachM) (fp2 : Nat → Prop) (W5 W6 W7 : World) (ao6 : Option Addr) (cap6 : Nat) (g6 : Option Nat) (ao7 : Option Addr) (cap7 : Nat) (g7 : Option Nat), J T' fp2 W5 → T'.map (·.1) = T.map (·.1) ++ (if fb = true then [((fr, arcs), 0)] else []) → Only fq W W5 →
          (∀ k, fp2 k → (fp1 k ∨ g = some k ∨ W.heap.size ≤ k) ∧ k < W5.heap.size) → ¬ fp2 (w.heap.size + 1) → MG (w.heap.size + 1) (mtakeM (fr, arcs) (x0, x1, x2)) last ao6 cap6 g6 lo lc W6 → (∀ k, g6 = some k → (g = some k ∧ ¬ fp2 k) ∨ W5.heap.size ≤ k) →
          Only (fun k => k = w.heap.size + 1 ∨ (g = some k ∧ ¬ fp2 k)) W5 W6 → Own W7 ao7 cap7 g7 5 1 r.length (byteVals r) → (∀ k, g7 = some k → W6.heap.size ≤ k) → Below W6.heap.size W6 W7 →
          ∃ fp', FwdT fq tp fp' W (W7.setCell ⟨w.heap.size + 1, 2, none⟩ (.slice ao7 r.length cap7)) ∧ eachMI recs J fp w.heap.size (w.heap.size + 1) w1.heap.size (pre ++ [(r, .slice ra r.length rc)]) fp' (W7.setCell ⟨w.heap.size + 1, 2, none⟩ (.slice ao7 r.length cap7)) := by
        intro T' fp2 W5 W6 W7 ao6 cap6 g6 ao7 cap7 g7 hj5 hT5 ho5 hf2 hnB hM6 hg6 ho6 ho7 hg7 hB7
        have hO : Only (fun k => k = w.heap.size + 1 ∨ (g = some k ∧ ¬ fp2 k)) W5 (W7.setCell ⟨w.heap.size + 1, 2, none⟩ (.slice ao7 r.length cap7)) := (ho6.ext hB7).setCell (fun _ => .inl rfl) _
        have hs5 := ho5.size
        have hs6 := ho6.size
        have hs7 := hB7.size
        have hsF := hO.size
        have hg6l := hM6.own.lt
        have hfB : fq (w.heap.size + 1) := (HF.out _).2 (.inr (.inl rfl))
        have hg6n : ∀ k, g6 = some k → ¬ fp2 k ∧ w1.heap.size ≤ k ∧ k < W6.heap.size := fun k hk => by
          refine ⟨?_, ?_, hg6l k hk⟩
          · rcases hg6 k hk with h | h
            · exact h.2
            · exact fun h2 => by have := (hf2 k h2).2; omega
          · rcases hg6 k hk with h | h
            · exact (Hn2.out k (.inl h.1)).2.1
            · omega
        have hsz7 : W7.heap.size ≤ (W7.setCell ⟨w.heap.size + 1, 2, none⟩ (.slice ao7 r.length cap7)).heap.size := by simp
        have hg7l := ho7.lt
        refine ⟨fun k => fp2 k ∨ k = w.heap.size + 1 ∨ g6 = some k ∨ g7 = some k, ⟨ho5.trans hO (fun i _ h => h.elim (fun h => by rw [h]; exact hfB) (fun h => (HF.out i).2 (.inr (.inr (.inl h.1))))), fun k hk => ?_⟩,
          T', fp2, mtakeM (fr, arcs) (x0, x1, x2), r, ao6, cap6, g6, ao7, cap7, g7, HJ.out _ _ _ _ hj5 (hO.stays (fun k hk => ⟨(hf2 k hk).2, ?_⟩)), fun l => ?_, (hM6.ext hB7).keepLast ho7 ?_ ?_, takeM_ok Hokp.out Hxo.out Hleft.out, ?_, hnB, fun k hk => ?_, ?_, fun k hk => ?_, fun k => Iff.rfl⟩
        · rcases hk with hk | rfl | hk | hk
          · refine ⟨?_, Nat.lt_of_lt_of_le (hf2 k hk).2 hsF⟩
            rcases (hf2 k hk).1 with h | h | h
            · exact .inl (Hf1q.out k h)
            · exact .inl ((HF.out k).2 (.inr (.inr (.inl h))))
            · exact .inr (.inr h)
          · exact ⟨.inl hfB, by omega⟩
          · refine ⟨?_, by have := hg6l k hk; omega⟩
            rcases hg6 k hk with h | h
            · exact .inl ((HF.out k).2 (.inr (.inr (.inl h.1))))
            · exact .inr (.inr (by omega))
          · exact ⟨.inr (.inr (by have := hg7 k hk; omega)), by have := hg7l k hk; omega⟩
        · rintro (h | h)
          · subst h; exact hnB hk
          · exact h.2 hk
        · rw [List.map_append, List.append_assoc]
          show toldRE (0, []) [] (pre.map (·.1) ++ (r :: l)) = _
          rw [HT.out, HTg.out l rfl, hT5, List.append_assoc]
        · exact fun e => by have := hg7 _ e; omega
        · exact fun k hk e => by have := hg7 k hk; have := hg6l k e; omega
        · have h1 := (takeM_len (fr, arcs) (x0, x1, x2)).1
          have h2 := Hlen.out
          simp at h1 h2 ⊢; omega
        · rcases hk with hk | hk
          · exact ⟨(hg6n k hk).1, (hg6n k hk).2.1, by have := (hg6n k hk).2.2; omega⟩
          · exact ⟨fun h => by have := (hf2 k h).2; have := hg7 k hk; omega, by have := hg7 k hk; omega, by have := hg7l k hk; omega⟩
        · intro h0 b' off e
          rcases ho7.addr with ⟨h1, _⟩ | ⟨b2, h1, h2, _⟩
          · rw [h1] at e; cases e
          · rw [h2] at e; cases e; exact h1
        · rcases (hf2 k hk).1 with h | h | h
          · exact Hn4.out k h
          · have := (Hn2.out k (.inl h)).2.1; right; omega
          · right; omega
      have Hfin := Lib.hid hfin
      have h12' : (r.length : Int) = 12 := by omega
      clear hfin hmay0 h12 hx2z hcmp hleft
      have HCl := Lib.hid (fun (W' : World) (h : Only fq W W') => clone_any r ra rc W' (by have := H12.out; omega) (by have := H12.out; omega) (Hrd1.out.only h (fun h0 k off e h => HFq.out k h (Hrf.out h0 k off e))))
      cases fb
      · have HTk := Lib.hid (fun W' (hB : Below W.heap.size W W') => take_any (w.heap.size + 1) (fr, arcs) last ao' cap' g lo lc (x0, x1, x2) W' (Hb.out.ext hB) Hxo.out (by have := Hlen.out; have := Hprel.out; omega) Hleft.out Hokp.out.2.2)
        have dc0 := Hb.out.c0
        have dc1 := Hb.out.c1
        simp only [edgeV] at HTk dc0 dc1
        clear h12'
        gi_wp2_with (first
          | (gi_at_call 105; refine (CallsIn.inRound l0 (callsIn_wide.2 HMay.out)).mono ?_; rintro e W2 ⟨rfl, hB2⟩; have hs2 := hB2.size; have dc0 := (hB2.cell (p := ⟨w.heap.size + 1, 0, none⟩) hWB).trans dc0; have dc1 := (hB2.cell (p := ⟨w.heap.size + 1, 1, none⟩) hWB).trans dc1; have HB2 := Lib.hid hB2; clear hB2)
          | (gi_at_call 106; refine (CallsIn.inRound l0 (callsIn_wide.2 (HFull.out _ (Hb.out.toH.ext (HB2.out.trans (((ext_alloc W2 _).alloc (by simp) _).mono hs2)))))).mono ?_; rintro e W4 ⟨rfl, hB4⟩; have hs4 := hB4.size; have x0' := ((bcell hB4).1 W2.heap.size 0 (by simp; omega)).trans (show _ = some (Value.int .u32 (x0 : Nat)) by simp [go_sem, ↓IntWalk.iteOmega]); have x1' := ((bcell hB4).1 W2.heap.size 1 (by simp; omega)).trans (show _ = some (Value.int .u32 (x1 : Nat)) by simp [go_sem, ↓IntWalk.iteOmega]); have x2' := ((bcell hB4).1 W2.heap.size 2 (by simp; omega)).trans (show _ = some (Value.int .u32 (x2 : Nat)) by simp [go_sem, ↓IntWalk.iteOmega]); have HB4 := Lib.hid ((HB2.out.trans (((ext_alloc W2 _).alloc (by simp) _).mono hs2)).trans (hB4.mono (by simp; omega))); simp at hs4; clear hB4 dc0 dc1)
          | (gi_at_call 107; refine (CallsIn.inRound l0 (callsIn_wide.2 (HTk.out W4 HB4.out))).mono ?_; rintro e W6 ⟨rfl, ao6, cap6, g6, hM6, hg6, ho6⟩; have hs6 := ho6.size; have t2 := hM6.c2; have tf := hM6.f2; have HM6 := Lib.hid hM6; have Hg6 := Lib.hid hg6; have Ho6 := Lib.hid ho6; clear hM6 hg6 ho6)
          | (gi_at_call 108; refine (CallsIn.inRound l0 (callsIn_wide.2 (HCl.out W6 ((Only.of_below HB4.out).trans Ho6.out (fun i _ h => h.elim (fun h => by rw [h]; exact (HF.out _).2 (.inr (.inl rfl))) (fun h => (HF.out i).2 (.inr (.inr (.inl h.2))))))))).mono ?_; rintro e W7 ⟨ao7, cap7, g7, rfl, ho7, hg7, hB7⟩; have t2 := ((bcell hB7).1 (w.heap.size + 1) 2 HM6.out.lt).trans t2; have tf := ((bcell hB7).2 (w.heap.size + 1) 2 HM6.out.lt).trans tf; have Ho7 := Lib.hid ho7; have Hg7 := Lib.hid hg7; have HB7 := Lib.hid hB7; clear ho7 hg7 hB7))
        exact Hfin.out T fp1 W4 W6 W7 ao6 cap6 g6 ao7 cap7 g7 (J_ext HJ.out Hj.out Hfp1.out HB4.out) (by simp) (Only.of_below HB4.out) (fun k hk => ⟨.inl hk, by have := Hfp1.out k hk; omega⟩) hn1 HM6.out (fun k hk => (Hg6.out k hk).imp (fun h => ⟨h.2, (Hn2.out k (.inl h.2)).1⟩) id)
          (Ho6.out.mono (fun k _ hk => hk.imp id (fun h => ⟨h.2, (Hn2.out k (.inl h.2)).1⟩))) Ho7.out Hg7.out HB7.out
      · have hns := HFn.out rfl
        have HTk := Lib.hid (fun W' h => take_new (w.heap.size + 1) (fr, arcs) last ao' cap' lo lc (x0, x1, x2) W' h Hxo.out hns)
        have hT2 : (T ++ [(((fr, arcs), 0), (ao', cap'))] : List EachM).map (·.1) = T.map (·.1) ++ [((fr, arcs), 0)] := by simp
        have hT3 : (T ++ [(((fr, arcs), 0), (ao', cap'))] : List EachM).map (·.1) <+: toldRE (0, []) [] recs := by
          rw [hT2, HTo.out, HTg.out rest rfl, if_pos rfl, ← List.append_assoc]; exact List.prefix_append _ _
        have HT2 := Lib.hid hT2
        have HT3 := Lib.hid hT3
        have HYp := Lib.hid (fun W2 (hB2 : Below W.heap.size W W2) => (@_root_.id (YieldAt Fence.wide 0 Tryz.prog ly #[.agg #[.int .u32 (fr : Nat), .slice ao' arcs.length cap'], .int .i64 0] W2 _) (HY.out T fp1 (fun k => g = some k) (((fr, arcs), 0), (ao', cap')) W2 (J_ext HJ.out Hj.out Hfp1.out hB2)
          (fun k hk => Nat.lt_of_lt_of_le (Hfp1.out k hk) hB2.size) (fun k hk => ⟨by have := (Hn2.out k (.inl hk)).2.1; omega, by have := (Hn2.out k (.inl hk)).2.2; have := hB2.size; omega, (Hn2.out k (.inl hk)).1⟩) (Hon.out.ext hB2) hT3
          ⟨Hb.out.own.capLe.1, Hb.out.own.capLe.2, Hokp.out, ((Hb.out.own.ext hB2).rd.mono (fun b hb _ => hb.elim (fun h => h.elim) id))⟩)))
        have dc0 := Hb.out.c0
        have dc1 := Hb.out.c1
        simp only [edgeV] at HTk dc0 dc1
        clear hT2 hT3 hns h12'
        gi_wp2_with (first
          | (gi_at_call 105; refine (CallsIn.inRound l0 (callsIn_wide.2 HMay.out)).mono ?_; rintro e W2 ⟨rfl, hB2⟩; have hs2 := hB2.size; have dc0 := (hB2.cell (p := ⟨w.heap.size + 1, 0, none⟩) hWB).trans dc0; have dc1 := (hB2.cell (p := ⟨w.heap.size + 1, 1, none⟩) hWB).trans dc1; have HB2 := Lib.hid hB2; clear hB2)
          | (gi_at_call 106; refine (CallsIn.inRound l0 (callsIn_wide.2 (HFull.out _ (Hb.out.toH.ext (HB2.out.trans (((ext_alloc W2 _).alloc (by simp) _).mono hs2)))))).mono ?_; rintro e W4 ⟨rfl, hB4⟩; have hs4 := hB4.size; have x0' := ((bcell hB4).1 W2.heap.size 0 (by simp; omega)).trans (show _ = some (Value.int .u32 (x0 : Nat)) by simp [go_sem, ↓IntWalk.iteOmega]); have x1' := ((bcell hB4).1 W2.heap.size 1 (by simp; omega)).trans (show _ = some (Value.int .u32 (x1 : Nat)) by simp [go_sem, ↓IntWalk.iteOmega]); have x2' := ((bcell hB4).1 W2.heap.size 2 (by simp; omega)).trans (show _ = some (Value.int .u32 (x2 : Nat)) by simp [go_sem, ↓IntWalk.iteOmega]); have r0' := ((bcell hB4).1 (W2.heap.size + 1) 0 (by simp)).trans (show _ = some (Value.int .u32 (fr : Nat)) by simp [go_sem, ↓IntWalk.iteOmega]); have r1' := ((bcell hB4).1 (W2.heap.size + 1) 1 (by simp)).trans (show _ = some (Value.slice ao' arcs.length cap') by simp [go_sem, ↓IntWalk.iteOmega]); have HB4 := Lib.hid ((HB2.out.trans (((ext_alloc W2 _).alloc (by simp) _).mono hs2)).trans (hB4.mono (by simp; omega))); simp at hs4; have hy4 := (HB4.out.cell (p := ⟨w.heap.size, 0, none⟩) hWY).trans Hy0.out; clear hB4 dc0 dc1; obtain ⟨fn, tmps, assign, body, hy, hR⟩ := HYp.out W4 HB4.out; have HR := Lib.hid hR; clear hR))
        refine HR.out.mono ?_
        clear hy HR
        rintro e W5 ⟨fp2, hfw2, (⟨rfl, hj3⟩ | ⟨rfl, hjx3⟩)⟩
        · have hs5 := hfw2.only.size
          have hxn : ¬ fp1 W2.heap.size := fun h => by have := Hfp1.out _ h; omega
          have x0' := (hfw2.only.cell (by omega) hxn 0).trans x0'
          have x1' := (hfw2.only.cell (by omega) hxn 1).trans x1'
          have x2' := (hfw2.only.cell (by omega) hxn 2).trans x2'
          have hM5 := (Hb.out.toH.ext (Below.mono HB4.out (Nat.le_refl _))).only hfw2.only hn1 (fun h0 b off e h => (Hn2.out b (.inr (Hn3.out h0 b off e))).1 h)
          have HM5 := Lib.hid hM5
          have Hj3 := Lib.hid hj3
          have Hfw2 := Lib.hid hfw2
          have ho5 : Only fq W W5 := (Only.of_below HB4.out).trans hfw2.only (fun i _ h => Hf1q.out i h)
          have Ho5 := Lib.hid ho5
          clear hM5 hj3 hfw2 ho5 hxn
          gi_wp2_with (first
            | (gi_at_call 107; refine (CallsIn.inRound l0 (callsIn_wide.2 (HTk.out W5 HM5.out))).mono ?_; rintro e W6 ⟨rfl, ao6, cap6, g6, hM6, hg6, ho6⟩; have hs6 := ho6.size; have t2 := hM6.c2; have tf := hM6.f2; have HM6 := Lib.hid hM6; have Hg6 := Lib.hid hg6; have Ho6 := Lib.hid ho6; clear hM6 hg6 ho6)
            | (gi_at_call 108; refine (CallsIn.inRound l0 (callsIn_wide.2 (HCl.out W6 (Ho5.out.trans Ho6.out (fun i _ h => by rw [h]; exact (HF.out _).2 (.inr (.inl rfl))))))).mono ?_; rintro e W7 ⟨ao7, cap7, g7, rfl, ho7, hg7, hB7⟩; have t2 := ((bcell hB7).1 (w.heap.size + 1) 2 HM6.out.lt).trans t2; have tf := ((bcell hB7).2 (w.heap.size + 1) 2 HM6.out.lt).trans tf; have Ho7 := Lib.hid ho7; have Hg7 := Lib.hid hg7; have HB7 := Lib.hid hB7; clear ho7 hg7 hB7))
          exact Hfin.out _ fp2 W5 W6 W7 ao6 cap6 g6 ao7 cap7 g7 Hj3.out (by rw [HT2.out]; simp) Ho5.out (fun k hk => ⟨(Hfw2.out.own k hk).1.imp id (fun h => h.imp id (fun h => by omega)), (Hfw2.out.own k hk).2⟩)
            (fun h => (Hfw2.out.own _ h).1.elim hn1 (fun h => h.elim (fun h => by have := (Hn2.out _ (.inl h)).2.1; omega) (fun h => by omega))) HM6.out (fun k hk => .inr (Hg6.out k hk)) (Ho6.out.mono (fun k _ hk => .inl hk)) Ho7.out Hg7.out HB7.out
        · have hfw3 : FwdT fp1 (fun k => g = some k) fp2 W W5 := ⟨(Only.of_below HB4.out).trans hfw2.only (fun _ _ h => h), fun k hk => ⟨(hfw2.own k hk).1.elim .inl (fun h => h.elim (fun h => .inr (.inl h)) (fun h => .inr (.inr (by omega)))), (hfw2.own k hk).2⟩⟩
          have Hend := Lib.hid (endX_stop (ts := toldRE (0, []) [] recs) (Jx := Jx) (J := J) (fp0 := fp) (fq := fq) (tp := tp) Hf1q.out (fun k hk => ⟨(HF.out k).2 (.inr (.inr (.inl hk))), by have := (Hn2.out k (.inl hk)).2.1; omega⟩) Hn4.out (by omega) hfw3 hjx3 HT3.out)
          clear hfw2 hfw3 hjx3
          gi_wp2_with fail
          exact Hend.out
    · have hd : ((er : Int) != 0) = true := by simp; omega
      have hT2 : (T ++ [(((0, []), er), (none, 0))] : List EachM).map (·.1) = toldRE (0, []) [] recs := by
        rw [HTo.out, HTb.out her, List.map_append]; rfl
      have HT2 := Lib.hid hT2
      have HY2 := Lib.hid (fun W2 (hB2 : Below W.heap.size W W2) => (@_root_.id (YieldAt Fence.wide 0 Tryz.prog ly #[.agg #[.int .u32 0, .slice none 0 0], .int .i64 (er : Nat)] W2 _) (HY.out T fp1 (fun _ => False) (((0, []), er), (none, 0)) W2 (J_ext HJ.out Hj.out Hfp1.out hB2)
        (fun k hk => Nat.lt_of_lt_of_le (Hfp1.out k hk) hB2.size) (fun k hk => hk.elim) (Hon.out.ext hB2) (by rw [hT2]; exact List.prefix_refl _) ⟨by simp, by simp [maxLen], ⟨by simp, by simp, by simp [sumA]⟩, .inl rfl⟩)))
      clear hT2 her
      gi_wp2_with (first
        | (gi_at_call 105; refine (CallsIn.inRound l0 (callsIn_wide.2 HMay.out)).mono ?_; rintro e W2 ⟨rfl, hB2⟩; have hs2 := hB2.size; have hy2 := (hB2.cell (p := ⟨w.heap.size, 0, none⟩) hWY).trans Hy0.out; have HB2 := Lib.hid hB2; clear hB2; obtain ⟨fn, tmps, assign, body, hy, hR⟩ := HY2.out (W2.alloc (Obj.cells #[Value.int IntKind.u32 x0, Value.int IntKind.u32 x1, Value.int IntKind.u32 x2] 48)) (HB2.out.trans ((ext_alloc W2 _).mono hs2)); have HR := Lib.hid hR; clear hR))
      refine HR.out.mono ?_
      clear hy HR
      rintro e W3 ⟨fp2, hfw2, hor⟩
      have hs3 := hfw2.only.size
      simp at hs3
      have hfw3 : FwdT fp1 (fun _ => False) fp2 W W3 := ⟨(Only.of_below (HB2.out.trans ((ext_alloc W2 _).mono hs2))).trans hfw2.only (fun _ _ h => h), fun k hk => ⟨(hfw2.own k hk).1.elim .inl (fun h => h.elim False.elim (fun h => .inr (.inr (by simp at h; omega)))), (hfw2.own k hk).2⟩⟩
      have Hend := Lib.hid (endX_ret (ts := toldRE (0, []) [] recs) (Jx := Jx) (fp0 := fp) (fq := fq) (tp := tp) Hf1q.out (fun k hk => hk.elim) Hn4.out (by omega) hfw3 hor HT2.out)
      rcases hor with ⟨rfl, _⟩ | ⟨rfl, _⟩
      all_goals
        clear hfw2 hfw3
        gi_wp2_with fail
        exact Hend.out
  case done =>
    rintro D xs fq W hD hxs ⟨T, fp1, row, last, ao', cap', g, lo, lc, gl, hj, ht, hb, hokp, hlen, hn1, hn2, hn3, hn4, hf⟩ honly hfo hlt hnD hk
    have hy0 : W.cell? ⟨w.heap.size, 0, none⟩ = some (.func (.yield ly) #[] #[]) := (honly.cell (by omega) (by
      rintro ((h | h) | h)
      · have := (Hfp.out _ h).1; omega
      · omega
      · exact h) 0).trans Y0.out
    have hon : Only (fun k => fp k ∨ False) w W := (Only.of_below (fp := fun k => fp k ∨ False) HB1.out).trans honly (by
      rintro i hi ((h | h) | h)
      · exact .inl h
      · omega
      · exact .inr h)
    have hT : toldRE (0, []) [] recs = T.map (·.1) ++ if 0 < row.2.length then [(row, 0)] else [] := by
      have := ht []
      rw [List.append_nil, hxs, toldRE_nil] at this
      exact this
    have hfp1 : ∀ k, fp1 k → k < W.heap.size := fun k hk => hlt k ((hf k).2 (.inl hk))
    have hnD1 : ¬ fp1 D := fun h => hnD ((hf D).2 (.inl h))
    have hgD : g ≠ some D := fun h => hnD ((hf D).2 (.inr (.inr (.inl h))))
    have d1 := hb.c1
    have d0 := hb.c0
    have hDW : D < W.heap.size := (Array.getElem?_eq_some_iff.1 hk).1
    obtain ⟨fr, arcs⟩ := row
    simp only at d0 d1 hT hlen
    have HT := Lib.hid hT
    have Hj := Lib.hid hj
    have Hb := Lib.hid hb
    have Hokp := Lib.hid hokp
    have Hn2 := Lib.hid hn2
    have Hn4 := Lib.hid hn4
    have Hon := Lib.hid hon
    have Hfp1 := Lib.hid hfp1
    have HgD := Lib.hid hgD
    have Hk := Lib.hid hk
    clear hT hj hb hokp hn2 hn3 hn4 hon hfp1 hgD hk ht honly hfo hlt hf hxs hlen HV
    dsimp only
    by_cases hn0 : 0 < arcs.length
    · have hT2 : (T ++ [(((fr, arcs), 0), (ao', cap'))] : List EachM).map (·.1) = toldRE (0, []) [] recs := by rw [HT.out]; simp [hn0]
      obtain ⟨fn, tmps, assign, body, hy, hR⟩ := (@_root_.id (YieldAt Fence.wide 0 Tryz.prog ly #[.agg #[.int .u32 (fr : Nat), .slice ao' arcs.length cap'], .int .i64 0] W _) (HY.out T fp1 (fun k => g = some k) (((fr, arcs), 0), (ao', cap')) W Hj.out
        Hfp1.out (fun k hk => ⟨by have := (Hn2.out k (.inl hk)).2; omega, (Hn2.out k (.inl hk)).2.2, (Hn2.out k (.inl hk)).1⟩) Hon.out (by rw [hT2]; exact List.prefix_refl _)
        ⟨Hb.out.own.capLe.1, Hb.out.own.capLe.2, Hokp.out, Hb.out.own.rd.mono (fun b hb _ => hb.elim (fun h => h.elim) id)⟩))
      have HR := Lib.hid hR
      have HT2 := Lib.hid hT2
      have hd : decide ((0 : Int) < (arcs.length : Int)) = true := by simp; omega
      have hd2 : decide (0 < arcs.length) = true := by simp; omega
      clear hR hT2 hn0
      gi_wp2_with fail
      refine HR.out.mono ?_
      clear hy HR
      rintro e W3 ⟨fp2, hfw2, hor⟩
      have hn2D : ¬ fp2 D := fun h => (hfw2.own D h).1.elim hnD1 (fun h => h.elim HgD.out (fun h => by omega))
      have hs : Stays fp2 W3 (W3.putObj D (.deferred none)) := ⟨rfl, rfl, rfl, by simp, fun k hk => World.putObj_heap_other (fun e => hn2D (e ▸ hk))⟩
      have hon3 : Only (fun k => fp k ∨ False) w W3 := Hon.out.trans hfw2.only (fun i hi h => (Hn4.out i h).elim .inl (fun h => by omega))
      have hk3 : W3.heap[D]? = some (.deferred (some [])) := (hfw2.only.same D hDW hnD1).trans Hk.out
      have hfin : ∀ k, fp2 k → (fp k ∨ w.heap.size ≤ k) ∧ k < (W3.putObj D (.deferred none)).heap.size := fun k hk => ⟨(hfw2.own k hk).1.elim (Hn4.out k) (fun h => h.elim (fun h => .inr (by have := (Hn2.out k (.inl h)).2; omega)) (fun h => .inr (by have := Hon.out.size; omega))), by simpa using (hfw2.own k hk).2⟩
      have Hend := Lib.hid (fun v => IterEnd.mk (It := fun _ => False) (ok := fun pre : List EachM => pre.map (·.1) <+: toldRE (0, []) [] recs) (S := fun xs => xs.map (·.1) = toldRE (0, []) [] recs) (J := J) (Jx := Jx) (v := v) (T ++ [(((fr, arcs), 0), (ao', cap'))]) fp2 (hon3.putObj _ (fun h => by omega)) hfin
        (hor.imp (fun h => ⟨HT2.out, HJ.out _ _ _ _ h.2 hs⟩) (fun h => ⟨by rw [HT2.out]; exact List.prefix_refl _, HJx.out _ _ _ _ h.2 hs⟩)))
      have Hk3 := Lib.hid hk3
      rcases hor with ⟨rfl, _⟩ | ⟨rfl, _⟩
      all_goals
        clear hfw2 hs hon3 hk3 hfin
        gi_wp2_with fail
        exact leaveM1 Hk3.out (results_none rfl _ _ _) (Hend.out _)
    · have hd : decide ((0 : Int) < (arcs.length : Int)) = false := decide_eq_false (by omega)
      have hd2 : decide (0 < arcs.length) = false := decide_eq_false (by omega)
      have HT2 := Lib.hid (show T.map (·.1) = toldRE (0, []) [] recs by rw [HT.out]; simp [hn0])
      clear hn0
      gi_wp2_with fail
      have hs : Stays fp1 W (W.putObj D (.deferred none)) := ⟨rfl, rfl, rfl, by simp, fun k hk => World.putObj_heap_other (fun e => hnD1 (e ▸ hk))⟩
      exact leaveM1 Hk.out (results_none rfl _ _ _) (IterEnd.mk T fp1 (Hon.out.putObj _ (fun h => by omega)) (fun k hk => ⟨Hn4.out k hk, by simpa using Hfp1.out k hk⟩)
        (.inl ⟨HT2.out, HJ.out _ _ _ _ Hj.out hs⟩))
end Go.Proofs.YtcklfffeimnfeaaGreat

namespace Go.Proofs.YtcklfffeimnfeaaGreat
open Go.RowKit

theorem each14_any (fn : Fn) (a b : Array Value) (w : World) :
    Calls Tryz.prog 65 #[.func fn a b] w fun e w' => e = .returned (.func (.func 104) #[] #[.pointer (some ⟨w.heap.size, 0, none⟩)]) ∧ w' = w.alloc (.cells #[.func fn a b] 124) := by
  have hmf : ∀ (fn : Fn) (first cap : Array Value) (w : World), (Instr.makeFunc fn first cap).run Tryz.prog w = .ok (.func fn first cap) w := fun _ _ _ _ => rfl
  go_enter Tryz.func65, Tryz.ntmps65
  go_wp2
  go_ret
  exact ⟨rfl, rfl⟩

def rowRep : Rep RowD := Rep.prod Rep.u32 (Rep.slice arcRep)
theorem rowRep_ok {W : World} {fp : Nat → Prop} {p : RowD} {ao : Option Addr} {cap : Nat} (h1 : p.2.length ≤ cap) (h2 : cap ≤ maxLen) (h3 : p.1 < 4294967296) (h4 : RdS arcRep fp W ao p.2) :
    rowRep.ok W fp p [.int .u32 (p.1 : Nat), .slice ao p.2.length cap] := ⟨[_], [_], rfl, ⟨rfl, h3⟩, ao, cap, rfl, h1, h2, h4⟩
theorem rowElem : Elem Tryz.prog 32 114 2 32 (.agg #[.int .u32 0, .slice none 0 0]) := Elem.mk' Tryz.underlying32 (by kernel_rfl) rfl (by decide)
/-- one new element of several cells, as the translation lays it ahead of an append -/
theorem srcMany {P : Program} {tx e' : TypeId} (hk : P.underlying tx = some (.slice e')) (w : World) (cs : List Value) (t : TypeId) (k size : Nat) (hs : cs.length = size) (h1 : ∀ u ∈ cs, u.oneCell' = true) :
    Src P size tx (.slice (some ⟨w.heap.size, 0, none⟩) 1 k) 1 cs (w.alloc (.cells cs.toArray t)) :=
  Src.ofSlice (w.alloc (.cells cs.toArray t)) hk ⟨w.heap.size, 0, none⟩ 1 k cs (by omega) (fun j u hu => by
    rw [Addr.add_lit, Nat.zero_add, World.cell?_alloc_new]
    simpa using hu) h1

/-- what a call that hands back rows and a number leaves -/
def RowsRet (r : List RowD × Nat) (w : World) (e : Ending) (w' : World) : Prop :=
  ∃ ao cap, e = .returned (.tuple #[.slice ao r.1.length cap, .int .i64 (r.2 : Nat)]) ∧ r.1.length ≤ cap ∧ cap ≤ maxLen ∧ RdS rowRep (fun k => w.heap.size ≤ k) w' ao r.1 ∧ Below w.heap.size w w'

def rowsI (s : Nat) (pre : List EachM) (fq : Nat → Prop) (W : World) : Prop :=
  ∃ (ao : Option Addr) (cap : Nat) (g : Option Nat) (fe : Nat → Prop), (∀ x ∈ pre, x.1.2 = 0) ∧ W.cell? ⟨s + 1 + 1, 0, none⟩ = some (.slice ao (pre.map (·.1.1)).length cap) ∧ W.cell? ⟨s, 0, none⟩ = some (.slice none 0 0) ∧ W.cell? ⟨s + 1, 0, none⟩ = some (.int .i64 0) ∧
    (∀ j, j < 3 → W.frozen? ⟨s + j, 0, none⟩ = false) ∧ OwnS rowRep fe W ao cap g 114 (pre.map (·.1.1)) ∧ (∀ k, fe k → fq k ∧ s + 5 ≤ k ∧ g ≠ some k) ∧ (∀ k, g = some k → fq k ∧ s + 5 ≤ k) ∧ (∀ j, j < 3 → fq (s + j))
def rowsX (s : Nat) (c : Code) (pre : List EachM) (fq : Nat → Prop) (W : World) : Prop :=
  c = .ret ∧ fq s ∧ fq (s + 1) ∧ ∃ q x, pre = q ++ [x] ∧ x.1.2 ≠ 0 ∧ W.cell? ⟨s, 0, none⟩ = some (.slice none 0 0) ∧ W.cell? ⟨s + 1, 0, none⟩ = some (.int .i64 (x.1.2 : Nat))

attribute [local go_sem] Oper.semAt_some

theorem rows_any (recs : List (List UInt8)) (ao : Option Addr) (cap : Nat) (w : World) (hl : recs.length ≤ 1073741824) (hrd : RdS (Rep.slice Rep.u8) (fun k => k < w.heap.size) w ao recs) :
    Calls Tryz.prog 32 #[.slice ao recs.length cap] w (RowsRet (rowsOf recs) w) := by
  have hE := rowElem
  have hit := fun eb b => each14_iter eb b recs ao cap (fun k => k < w.heap.size) hl
  have Hrd := Lib.hid hrd
  clear hrd
  refine (callsIn_wide (n := 0)).1 (callsIn_of_wp_marks Tryz.func32 rfl trivial ?_)
  simp only [Tryz.ntmps32, List.size_toArray, List.length_cons, List.length_nil, Nat.reduceAdd, Nat.reduceSub, Array.replicate_succ, Array.replicate_zero, List.push_toArray, List.append_toArray, List.nil_append, List.cons_append]
  gi_wp2_with (first
    | (gi_at_call 66; refine (callsIn_wide.2 (vals_any _ _ _ _)).mono ?_; rintro e w2 ⟨rfl, rfl⟩)
    | (gi_at_call 65; refine (callsIn_wide.2 (each14_any _ _ _ _)).mono ?_; rintro e w2 ⟨rfl, rfl⟩))
  obtain ⟨w1, hw1⟩ : ∃ w1, (((((w.alloc (Obj.cells #[Value.slice none 0 0] 32)).alloc (Obj.cells #[Value.int IntKind.i64 0] 36)).alloc (Obj.cells #[Value.slice none 0 0] 32)).alloc (Obj.cells #[Value.slice ao recs.length cap] 65)).alloc
      (Obj.cells #[Value.func (Fn.func 109) #[] #[Value.pointer (some ⟨w.heap.size + 1 + 1 + 1, 0, none⟩)]] 124)) = w1 := ⟨_, rfl⟩
  have hs1 : w1.heap.size = w.heap.size + 5 := by rw [← hw1]; simp
  have hB1 : Below w.heap.size w w1 := by rw [← hw1]; exact ((((ext_alloc w _).alloc (by simp) _).alloc (by simp; omega) _).alloc (by simp; omega) _).alloc (by simp; omega) _
  have c4 : w1.cell? ⟨w.heap.size + 1 + 1 + 1 + 1, 0, none⟩ = some (.func (.func 109) #[] #[.pointer (some ⟨w.heap.size + 1 + 1 + 1, 0, none⟩)]) := by rw [← hw1]; simp [go_sem, ↓IntWalk.iteOmega]
  have c3 : w1.cell? ⟨w.heap.size + 1 + 1 + 1, 0, none⟩ = some (.slice ao recs.length cap) := by rw [← hw1]; simp [go_sem, ↓IntWalk.iteOmega]
  have hI0 : rowsI w.heap.size [] (fun k => k = w.heap.size ∨ k = w.heap.size + 1 ∨ k = w.heap.size + 2) w1 := by
    rw [← hw1]
    refine ⟨none, 0, none, fun _ => False, by simp, by simp [go_sem, ↓IntWalk.iteOmega], by simp [go_sem, ↓IntWalk.iteOmega], by simp [go_sem, ↓IntWalk.iteOmega], fun j hj => ?_, OwnS.nil _ _ _ _, fun k h => h.elim, (fun k h => by cases h), fun j hj => by omega⟩
    simp only [go_sem]
    simp
    omega
  rw [hw1]
  have HB1 := Lib.hid hB1
  have HI0 := Lib.hid hI0
  have hs1' : w.heap.size + 5 ≤ w1.heap.size := by omega
  clear hw1 hs1 hB1 hI0
  refine wpIn_rangeTB (gf := 104) (lb := #[.pointer (some ⟨w.heap.size + 1 + 1 + 1 + 1, 0, none⟩)]) rfl (enters_of Tryz.func104 (by kernel_rfl) rfl) (hit _ (w.heap.size + 1 + 1 + 1)) (fun _ => rfl)
    (fun k => k = w.heap.size ∨ k = w.heap.size + 1 ∨ k = w.heap.size + 2) (fun k h => by omega) (fun k h => by omega) (fun k h => h.elim)
    (fun pre fq W => rowsI w.heap.size pre fq W) (fun c pre fq W => rowsX w.heap.size c pre fq W) ?hI ?hIx (fun _ _ _ _ => trivial) ?hPre HI0.out
    [(10, fun x : EachM => .agg #[.int .u32 (x.1.1.1 : Nat), .slice x.2.1 x.1.1.2.length x.2.2]), (11, fun x => .int .i64 (x.1.2 : Nat)), (6, fun x => .int .i64 (x.1.2 : Nat))] 5 114 (fun x => #[.int .u32 (x.1.1.1 : Nat), .slice x.2.1 x.1.1.2.length x.2.2]) ?assign ?body ?done ?stop
  case hI =>
    rintro pre fq A B ⟨ao', cap', g, fe, h0, h1, h2, h3, h4, h5, h6, h7, h8⟩ hs
    have e0 := h8 0 (by omega)
    have e1 := h8 1 (by omega)
    have e2 := h8 2 (by omega)
    exact ⟨ao', cap', g, fe, h0, (hs.cell e2 0).trans h1, (hs.cell e0 0).trans h2, (hs.cell e1 0).trans h3, fun j hj => (hs.frozen (h8 j hj) 0).trans (h4 j hj), h5.stays hs (fun b hb _ => hb.elim (fun h => (h6 b h).1) (fun h => (h7 b h).1)), h6, h7, h8⟩
  case hIx =>
    rintro c pre fq A B ⟨rfl, h1, h2, q, x, h3, h4, h5, h6⟩ hs
    exact ⟨rfl, h1, h2, q, x, h3, h4, (hs.cell h1 0).trans h5, (hs.cell h2 0).trans h6⟩
  case hPre =>
    intro W hb
    have hsz := hb.size
    exact ⟨((bcell hb).1 _ 0 (by omega)).trans c4, ((bcell hb).1 _ 0 (by omega)).trans c3, (Hrd.out.ext HB1.out).ext hb, fun k h => by omega⟩
  case assign =>
    intro l x W K hK
    rw [show encM x = #[.agg #[.int .u32 (x.1.1.1 : Nat), .slice x.2.1 x.1.1.2.length x.2.2], .int .i64 (x.1.2 : Nat)] from rfl]
    gi_wp2
    exact hK
  case body =>
    rintro l0 pre fq tp x W Wy q hq hl0 hr0 honly hok ⟨hxc, hxm, hxi, hxr⟩ ho0 hnl hflt htp ⟨ao', cap', g, fe, h0, h1, h2, h3, h4, h5, h6, h7, h8⟩ hsz
    simp only [List.foldl_cons, List.foldl_nil, List.setIfInBounds_toArray, List.set_cons_zero, List.set_cons_succ]
    obtain ⟨⟨p, er⟩, ax, cx⟩ := x
    simp only at hxc hxm hxi hxr hq
    have hpl : pre.length ≤ recs.length + 1 := by
      have h1 := hok.length_le
      have h2 := toldRE_len recs (0, []) []
      simp at h1; omega
    have hqb := cell_of_row W q 0 _ _ _ hq
    have hqb1 := cell_of_row W q 1 _ _ _ hq
    simp only [List.getElem?_toArray, List.getElem?_cons_zero, List.getElem?_cons_succ] at hqb hqb1
    dsimp only
    have f0 := h4 0 (by omega)
    have f1 := h4 1 (by omega)
    have f2 := h4 2 (by omega)
    rw [Nat.add_zero] at f0
    rw [show w.heap.size + 2 = w.heap.size + 1 + 1 from rfl] at f2
    have q0 := h8 0 (by omega)
    have q1 := h8 1 (by omega)
    have q2 := h8 2 (by omega)
    have hor := hxr.only ho0 (fun b hb _ e => by have := (htp b hb).2.2.2; omega)
    have Hor := Lib.hid hor
    have Hor0 := Lib.hid hok
    have H5 := Lib.hid h5
    have H6 := Lib.hid h6
    have H7 := Lib.hid h7
    have H8 := Lib.hid h8
    have H0 := Lib.hid h0
    have H4 := Lib.hid h4
    have Hflt := Lib.hid hflt
    have Htp := Lib.hid htp
    have Hsy := Lib.hid ho0.size
    have hpl2 : (pre.map (·.1.1)).length ≤ recs.length + 1 := by simpa using hpl
    clear hor hok h5 h6 h7 h8 h0 h4 hflt htp hq hr0 hl0 hnl ho0 honly hxr hit
    by_cases he : er = 0
    · subst he
      obtain ⟨css, hown0, hall⟩ := H5.out
      have Hall := Lib.hid hall
      have hown : Own W ao' cap' g 114 2 pre.length css.flatten := by rw [List.length_map] at hown0; exact hown0
      rw [List.length_map] at h1
      have hgO : ∀ j, j < 3 → g ≠ some (w.heap.size + j) := fun j hj e => by have := (H7.out _ e).2; omega
      have HgO := Lib.hid hgO
      have Hown := Lib.hid hown
      clear hall hown0 hgO hown
      gi_wp2_with (gi_at_builtin; refine wpListIn_app rfl (.tmp 15) (.tmp 17) 32 32 rfl hE (Hown.out.alloc _) rfl rfl (srcMany Tryz.underlying32 _ _ _ _ 2 rfl (by simp [Value.oneCell'])) (by simp [maxLen]; omega) (by omega) ?_; intro ao3 cap3 g3 W3 ho3 hg3 hon3; have hon4 : Only (fun k => g = some k) W W3 := ((Only.refl (fun k => g = some k) W).alloc _).trans hon3 (fun _ _ h => h); have e1 := (hon4.cell (Hflt.out _ q2) (HgO.out 2 (by omega)) 0).trans h1; have e2 := (hon4.frozen (Hflt.out _ q2) (HgO.out 2 (by omega)) 0).trans f2; have Ho3 := Lib.hid ho3; have Hg3 := Lib.hid hg3; have Hon4 := Lib.hid hon4; clear ho3 hg3 hon3 hon4)
      have hsz3 : W.heap.size ≤ W3.heap.size := Hon4.out.size
      have hg3' : ∀ k, g3 = some k → g = some k ∨ W.heap.size ≤ k := fun k h => by
        rcases Hg3.out with rfl | rfl
        · exact .inl h
        · cases h; right; simp
      have q0' := Hflt.out _ q0
      have q1' := Hflt.out _ q1
      have q2' := Hflt.out _ q2
      have hO : Only fq W (W3.setCell ⟨w.heap.size + 1 + 1, 0, none⟩ (.slice ao3 (pre.length + 1) cap3)) := (Hon4.out.mono (fun k _ hk => (H7.out k hk).1)).setCell (fun _ => q2) _
      have hfe : ∀ b, (fe b ∨ tp b) → b < W.heap.size ∧ g ≠ some b ∧ w.heap.size + 5 ≤ b := fun b hb => by
        rcases hb with h | h
        · exact ⟨Hflt.out b (H6.out b h).1, (H6.out b h).2.2, (H6.out b h).2.1⟩
        · exact ⟨by have := (Htp.out b h).2.1; have := Hsy.out; omega, fun e => (Htp.out b h).2.2.1 (H7.out b e).1, by have := (Htp.out b h).1; omega⟩
      have hS : OwnS rowRep (fun k => fe k ∨ tp k) W3 ao3 cap3 g3 114 (pre.map (·.1.1) ++ [p]) := by
        refine OwnS.snoc (w := W) (forall2_imp (fun x cs h => rowRep.mono h (fun b hb _ => .inl hb)) Hall.out) (cs := [.int .u32 (p.1 : Nat), .slice ax p.2.length cx]) (rowRep_ok hxc hxm hxi.1 ?_) (by rw [List.length_map]; exact Ho3.out) (fun b hb hl => Hon4.out.same b hl (hfe b hb).2.1) hsz3
        exact (Hor.out.only Hon4.out (fun b hb hl => (hfe b (.inr hb)).2.1)).mono (fun b hb _ => .inr hb)
      refine ⟨fun k => k = w.heap.size ∨ k = w.heap.size + 1 ∨ k = w.heap.size + 2 ∨ fe k ∨ tp k ∨ g3 = some k, ⟨hO, fun k hk => ?_⟩, ao3, cap3, g3, fun k => fe k ∨ tp k, ?_, ?_, ?_, ?_, ?_, ?_, fun k hk => ⟨by
        rcases hk with h | h
        · exact .inr (.inr (.inr (.inl h)))
        · exact .inr (.inr (.inr (.inr (.inl h)))), (hfe k hk).2.2, fun e => (hg3' k e).elim (hfe k hk).2.1 (fun h => by have := (hfe k hk).1; omega)⟩, fun k hk => ⟨by simp [hk], (hg3' k hk).elim (fun h => (H7.out k h).2) (fun h => by omega)⟩, fun j hj => by omega⟩
      · rw [World.size_setCell]
        rcases hk with rfl | rfl | rfl | h | h | h
        · exact ⟨.inl q0, by omega⟩
        · exact ⟨.inl q1, by omega⟩
        · exact ⟨.inl q2, by omega⟩
        · exact ⟨.inl (H6.out k h).1, by have := (hfe k (.inl h)).1; omega⟩
        · exact ⟨.inr (.inl h), by have := (hfe k (.inr h)).1; omega⟩
        · exact ⟨(hg3' k h).elim (fun h => .inl (H7.out k h).1) (fun h => .inr (.inr h)), Ho3.out.lt k h⟩
      · intro x hx
        rcases List.mem_append.1 hx with h | h
        · exact H0.out x h
        · rw [List.mem_singleton.1 h]
      · simp [cell_set_ite, e1]
      · simp only [cell_set_ite]
        rw [if_neg (by omega)]
        exact (Hon4.out.cell q0' (HgO.out 0 (by omega)) 0).trans h2
      · simp only [cell_set_ite]
        rw [if_neg (by omega)]
        exact (Hon4.out.cell q1' (HgO.out 1 (by omega)) 0).trans h3
      · intro j hj
        rw [World.frozen?_setCell, Hon4.out.frozen (Hflt.out _ (H8.out j hj)) (HgO.out j hj) 0]
        exact H4.out j hj
      · rw [List.map_append]
        refine hS.keep (fun b hb hl => Below.heap_setCell _ _ _ _ (fun e => ?_)) (by simp)
        simp only at e
        rcases hb with h | h
        · have := (hfe b h).2.2; omega
        · rcases hg3' b h with h | h
          · exact HgO.out 2 (by omega) (by rw [h, e])
          · omega
    · have hd : ((er : Int) != 0) = true := by simp; omega
      gi_wp2_with fail
      have q0' := Hflt.out _ q0
      have q1' := Hflt.out _ q1
      refine ⟨fq, ⟨((Only.refl fq W).setCell (fun _ => q0) _).setCell (fun _ => q1) _, fun k hk => ⟨.inl hk, by simpa using Hflt.out k hk⟩⟩, rfl, q0, q1, pre, ((p, er), ax, cx), rfl, he, ?_, ?_⟩
      · simp [cell_set_ite, h2]
      · simp [cell_set_ite, h3]
  case done =>
    rintro D xs fq W hD hxs ⟨ao', cap', g, fe, h0, h1, h2, h3, h4, h5, h6, h7, h8⟩ honly hfo hlt hnD hk
    have Hp := Lib.hid (toldRE_all hxs h0)
    have f0 := h4 0 (by omega)
    have f1 := h4 1 (by omega)
    rw [Nat.add_zero] at f0
    have hbW : Below w.heap.size w W := HB1.out.trans (honly.below (by omega) (by rintro k hk (h | h) <;> first | omega | exact h))
    have hrd := h5.rd
    have hcl := h5.capLe
    have hgl := h5.lt
    have hDW : D < W.heap.size := (Array.getElem?_eq_some_iff.1 hk).1
    have Hbw := Lib.hid hbW
    have Hrr := Lib.hid hrd
    have Hcl := Lib.hid hcl
    have H6 := Lib.hid h6
    have H7 := Lib.hid h7
    have Hnd := Lib.hid hnD
    have Hk := Lib.hid hk
    clear hbW hrd hcl h6 h7 hnD hk h5 h4 h0 hxs honly hfo hlt h8 hit
    dsimp only
    gi_wp2_with fail
    have hW1 := Hbw.out.size
    refine leaveM1 (v := .tuple #[.slice ao' (xs.map (·.1.1)).length cap', .int .i64 0]) ?_ ?_ ?_
    · rw [Below.heap_setCell _ _ _ _ (by simp; omega), Below.heap_setCell _ _ _ _ (by simp; omega)]; exact Hk.out
    · have n0 : w.heap.size ≠ D := by omega
      have n1 : w.heap.size + 1 ≠ D := by omega
      simp [results, Tryz.results32, go_sem, n0, n1, cell_set_ite, h2, h3]
    · rw [Hp.out]
      refine ⟨ao', cap', rfl, Hcl.out.1, Hcl.out.2, ?_, ?_⟩
      · refine (Hrr.out.keep (fun b hb hl => ?_) (by simp)).mono (fun b hb _ => by
          rcases hb with h | h
          · have := (H6.out b h).2.1; omega
          · have := (H7.out b h).2; omega)
        have hb5 : w.heap.size + 5 ≤ b ∧ b ≠ D := by
          rcases hb with h | h
          · exact ⟨(H6.out b h).2.1, fun e => Hnd.out (e ▸ (H6.out b h).1)⟩
          · exact ⟨(H7.out b h).2, fun e => Hnd.out (e ▸ (H7.out b h).1)⟩
        rw [World.putObj_heap_other hb5.2, Below.heap_setCell _ _ _ _ (by simp; omega), Below.heap_setCell _ _ _ _ (by simp; omega)]
      · exact ext_put ((Hbw.out.setCell (by simp) _).setCell (by simp) _) (by omega)
  case stop =>
    rintro D c xs fq W hD hok ⟨rfl, q0, q1, pre, x, rfl, he, h2, h3⟩ honly hfo hlt hnD hk
    have hp := toldRE_stop hok he
    have hbW : Below w.heap.size w W := HB1.out.trans (honly.below (by omega) (by rintro k hk (h | h) <;> first | omega | exact h))
    gi_wp2
    refine leaveM1 (v := .tuple #[.slice none 0 0, .int .i64 (x.1.2 : Nat)]) hk ?_ (by rw [hp]; exact ⟨none, 0, rfl, by simp, by simp [maxLen], .inl rfl, ext_put hbW (by omega)⟩)
    have n0 : w.heap.size ≠ D := by omega
    have n1 : w.heap.size + 1 ≠ D := by omega
    simp [results, Tryz.results32, go_sem, n0, n1, h2, h3]
end Go.Proofs.YtcklfffeimnfeaaGreat

namespace Go.Proofs.YtcklfffeimnfeaaGreat
open Go.RowKit

theorem oneArc : OneC arcRep := OneC.prod (OneC.nat _ _) (OneC.nat _ _)
theorem oneRow : OneC rowRep := OneC.prod (OneC.nat _ _) (OneC.slice _)
/-- a row of those that lie somewhere -/
theorem RdS.row {fp : Nat → Prop} {w : World} {ao : Option Addr} {l : List RowD} (h : RdS rowRep fp w ao l) (k : Nat) (hk : k < l.length) :
    ∃ b off ra rc, ao = some ⟨b, off, none⟩ ∧ b < w.heap.size ∧ w.cell? ⟨b, off + k * 2, none⟩ = some (.int .u32 (l[k].1 : Nat)) ∧ w.cell? ⟨b, off + k * 2 + 1, none⟩ = some (.slice ra l[k].2.length rc) ∧
      l[k].1 < 4294967296 ∧ l[k].2.length ≤ rc ∧ rc ≤ maxLen ∧ RdS arcRep fp w ra l[k].2 := by
  obtain ⟨b, off, cs, rfl, _, hb, ⟨c, d, rfl, ⟨rfl, h1⟩, ra, rc, rfl, h2, h3, h4⟩, hc⟩ := h.at k hk
  exact ⟨b, off, ra, rc, rfl, hb, hc 0 (by decide), hc 1 (by decide), h1, h2, h3, h4⟩

/-- rows, with an edge more -/
def withR (l : List RowD) (x : EdgeD) : List RowD := match l.getLast? with
  | some r => if r.1 = x.1 then l.dropLast ++ [(x.1, addArc r.2 x)] else l ++ [(x.1, [(x.2.1, x.2.2)])]
  | none => [(x.1, [(x.2.1, x.2.2)])]
def RowsOne (l : List RowD) (fp : Nat → Prop) (w : World) (e : Ending) (w' : World) : Prop :=
  ∃ ao cap, e = .returned (.slice ao l.length cap) ∧ l.length ≤ cap ∧ cap ≤ maxLen ∧ RdS rowRep (fun k => fp k ∨ w.heap.size ≤ k) w' ao l ∧ Below w.heap.size w w'

theorem rd_arc1M {w : World} {b x1 x2 : Nat} {t : TypeId} (h : w.heap[b]? = some (.cells #[.int .u32 (x1 : Nat), .int .u32 (x2 : Nat)] t (0, 0))) (hx : okA (x1, x2)) : RdS arcRep (fun k => k = b) w (some ⟨b, 0, none⟩) [(x1, x2)] := by
  refine .inr ⟨b, 0, rfl, rfl, (Array.getElem?_eq_some_iff.1 h).1, fun j x hj => ?_⟩
  have hj0 : j = 0 := by have := (List.getElem?_eq_some_iff.1 hj).1; simpa using this
  subst hj0
  simp only [List.getElem?_cons_zero, Option.some.injEq] at hj
  subst hj
  refine ⟨arcCs (x1, x2), arcRep_ok hx, fun i hi => ?_⟩
  have hi2 : i = 0 ∨ i = 1 := by have : i < 2 := hi; omega
  rw [Nat.zero_add, Nat.zero_mul, Nat.zero_add, cell_of_row w b i _ _ _ h]
  rcases hi2 with rfl | rfl <;> rfl
theorem with_new {l : List RowD} {x : EdgeD} {fp : Nat → Prop} {w w5 : World} {css : List (List Value)} {ao : Option Addr} {cap ab : Nat} {g : Option Nat} {t : TypeId} (hall : All2 (fun x cs => rowRep.ok w fp x cs) l css) (hfp : ∀ b, fp b → b < w.heap.size) (hB : Below w.heap.size w w5)
    (ho : Own w5 ao cap g t 2 (l.length + 1) (css.flatten ++ [.int .u32 (x.1 : Nat), .slice (some ⟨ab, 0, none⟩) 1 1])) {ta : TypeId} (hb : w5.heap[ab]? = some (.cells #[.int .u32 (x.2.1 : Nat), .int .u32 (x.2.2 : Nat)] ta (0, 0))) (hx : okE x) (hg : ∀ b, g = some b → w.heap.size ≤ b) (hab : w.heap.size ≤ ab) :
    RdS rowRep (fun k => fp k ∨ w.heap.size ≤ k) w5 ao (l ++ [(x.1, [(x.2.1, x.2.2)])]) := by
  have h1 := all2_mono (fp' := fun k => fp k ∨ w.heap.size ≤ k) hall (fun b hb _ => hB.block b (hfp b hb)) hB.size (fun _ h => .inl h)
  have h2 : rowRep.ok w5 (fun k => fp k ∨ w.heap.size ≤ k) (x.1, [(x.2.1, x.2.2)]) [.int .u32 (x.1 : Nat), .slice (some ⟨ab, 0, none⟩) 1 1] :=
    rowRep_ok (p := (x.1, [(x.2.1, x.2.2)])) (by simp) (by simp [maxLen]) hx.1 ((rd_arc1M hb ⟨hx.2.1, hx.2.2⟩).mono (fun b h _ => by subst h; exact .inr hab))
  have hO : OwnS rowRep (fun k => fp k ∨ w.heap.size ≤ k) w5 ao cap g t (l ++ [(x.1, [(x.2.1, x.2.2)])]) := ⟨css ++ [_], by simpa using (show Own w5 ao cap g t rowRep.size (l.length + 1) (css.flatten ++ [.int .u32 (x.1 : Nat), .slice (some ⟨ab, 0, none⟩) 1 1]) from ho), all2_append h1 (.cons h2 .nil)⟩
  exact hO.rd.mono (fun b h _ => h.elim id (fun h => .inr (hg b h)))

theorem arc_fp {w w' : World} {fp fp' : Nat → Prop} {x : ArcD} {cs : List Value} (h : arcRep.ok w fp x cs) : arcRep.ok w' fp' x cs := h
theorem with_last {A : List RowD} {arcs : List ArcD} {fp : Nat → Prop} {w w5 : World} {css : List (List Value)} {ao ra : Option Addr} {cap rc fr : Nat} {g : Option Nat} {t : TypeId} (hall : All2 (fun x cs => rowRep.ok w fp x cs) A css) (hfp : ∀ b, fp b → b < w.heap.size) (hB : Below w.heap.size w w5)
    (ho : Own w5 ao cap g t 2 (A.length + 1) (css.flatten ++ [.int .u32 (fr : Nat), .slice ra arcs.length rc])) (hra : RdS arcRep (fun k => w.heap.size ≤ k) w5 ra arcs) (h1 : arcs.length ≤ rc) (h2 : rc ≤ maxLen) (hfr : fr < 4294967296) (hg : ∀ b, g = some b → w.heap.size ≤ b) :
    RdS rowRep (fun k => fp k ∨ w.heap.size ≤ k) w5 ao (A ++ [(fr, arcs)]) := by
  have h3 := all2_mono (fp' := fun k => fp k ∨ w.heap.size ≤ k) hall (fun b hb _ => hB.block b (hfp b hb)) hB.size (fun _ h => .inl h)
  have hO : OwnS rowRep (fun k => fp k ∨ w.heap.size ≤ k) w5 ao cap g t (A ++ [(fr, arcs)]) := ⟨css ++ [_], by simpa using (show Own w5 ao cap g t rowRep.size (A.length + 1) (css.flatten ++ [.int .u32 (fr : Nat), .slice ra arcs.length rc]) from ho), all2_append h3 (.cons (rowRep_ok (p := (fr, arcs)) h1 h2 hfr (hra.mono (fun b h _ => .inr h))) .nil)⟩
  exact hO.rd.mono (fun b h _ => h.elim id (fun h => .inr (hg b h)))

theorem with_any (l : List RowD) (x : EdgeD) (ao : Option Addr) (cap : Nat) (w : World) (hl : l.length ≤ 100000) (hx : okE x) (fp : Nat → Prop) (hfp : ∀ b, fp b → b < w.heap.size) (hrd : RdS rowRep fp w ao l) (hcap : l.length ≤ cap) (hne : ∀ A r, l = A ++ [r] → 0 < r.2.length ∧ r.2.length ≤ 1000000 ∧ (r.1 = x.1 → sumA r.2 + x.2.2 ≤ 2147483647)) :
    Calls Tryz.prog 60 #[.slice ao l.length cap, edgeV x] w (RowsOne (withR l x) fp w) := by
  have Hfp := Lib.hid hfp
  clear hfp
  have hE := rowElem
  have hEa := arcElem
  obtain ⟨x0, x1, x2⟩ := x
  simp only [edgeV]
  by_cases h0 : l.length = 0
  · obtain rfl := List.eq_nil_of_length_eq_zero h0
    have hd : (((0 : Nat) : Int) == 0) = true := rfl
    obtain ⟨css, hall, hsrc⟩ := hrd.srcAll oneRow (P := Tryz.prog) (tx := 32) Tryz.underlying32
    have Hsrc := Lib.hid hsrc
    have Hall := Lib.hid hall
    have Hx := Lib.hid hx
    have HWr := Lib.hid (show withR [] (x0, x1, x2) = [] ++ [(x0, [(x1, x2)])] from rfl)
    clear hall hsrc hrd hne hx
    go_enter Tryz.func60, Tryz.ntmps60
    go_wp2_with fail
    go_quiet (fail)
    go_wp2_with fail
    obtain ⟨w2, hw2⟩ : ∃ w2, ((w.alloc (Obj.cells #[Value.int IntKind.u32 (x0 : Nat), Value.int IntKind.u32 (x1 : Nat), Value.int IntKind.u32 (x2 : Nat)] 48)).alloc (Obj.cells #[Value.int IntKind.u32 (x1 : Nat), Value.int IntKind.u32 (x2 : Nat)] 85)).drewN nq = w2 := ⟨_, rfl⟩
    have hB2 : Below w.heap.size w w2 := by rw [← hw2]; exact below_drewN ((ext_alloc w _).alloc (by simp) _) _
    have hs2 : w.heap.size + 2 ≤ w2.heap.size := by rw [← hw2]; simp
    have e0 : w2.cell? ⟨w.heap.size, 0, none⟩ = some (.int .u32 (x0 : Nat)) := by rw [← hw2]; simp [go_sem, ↓IntWalk.iteOmega]
    have a0 : w2.cell? ⟨w.heap.size + 1, 0, none⟩ = some (.int .u32 (x1 : Nat)) := by rw [← hw2]; simp [go_sem, ↓IntWalk.iteOmega]
    have a1 : w2.cell? ⟨w.heap.size + 1, 1, none⟩ = some (.int .u32 (x2 : Nat)) := by rw [← hw2]; simp [go_sem, ↓IntWalk.iteOmega]
    rw [hw2]
    have HB2 := Lib.hid hB2
    clear hw2 hB2
    go_region_held3 (fun w' => w'.cell? ⟨w.heap.size, 0, none⟩ = some (.int .u32 (x0 : Nat)) ∧ w'.cell? ⟨w.heap.size + 1, 0, none⟩ = some (.int .u32 (x1 : Nat)) ∧ w'.cell? ⟨w.heap.size + 1, 1, none⟩ = some (.int .u32 (x2 : Nat))) (first | exact ⟨e0, a0, a1⟩ | exact ⟨e4, b4, c4⟩ | exact ⟨e5, b5, c5⟩ | (refine ⟨?_, ?_, ?_⟩ <;> simp [go_sem, ↓IntWalk.iteOmega, e0, a0, a1]; done) | (refine ⟨?_, ?_, ?_⟩ <;> simp [go_sem, ↓IntWalk.iteOmega, e4, b4, c4]; done) | go_keep)
      (first
        | (refine step_app rfl (.tmp 29) (.tmp 30) 32 32 rfl hE (own_empty (by simp only [drew_heap, heap_alloc_ite, World.size_alloc, ↓IntWalk.iteOmega, if_true])) rfl rfl (Hsrc.out _ (HB2.out.trans ((by repeat (first | exact Below.refl _ _ | refine Below.drew ?_ | refine Below.alloc ?_ (by first | omega | (simp; try omega)) _) : Below w2.heap.size w2 _).mono (by omega))) _) (by first | (simp only [maxLen]; omega) | (simp [maxLen]; done)) (by first | omega | (simp; done)) ?_; intro ao4 cap4 g4 w4 ho4 hg4 hon4; rw [Nat.zero_add, List.nil_append] at ho4; have hB4 : Below w2.heap.size w2 w4 := Below.trans (by repeat (first | exact Below.refl _ _ | refine Below.drew ?_ | refine Below.alloc ?_ (by first | omega | (simp; try omega)) _)) (hon4.below (by simp; try omega) (fun k hk e => by cases e; omega)); have e4 := ((bcell hB4).1 w.heap.size 0 (by omega)).trans e0; have b4 := ((bcell hB4).1 (w.heap.size + 1) 0 (by omega)).trans a0; have c4 := ((bcell hB4).1 (w.heap.size + 1) 1 (by omega)).trans a1; have Ho4 := Lib.hid ho4; have Hg4 := Lib.hid hg4; have Hon4 := Lib.hid hon4; have hg4n : ∀ k, g4 = some k → w2.heap.size ≤ k := (fun k h => by rcases hg4 with e | e <;> rw [e] at h <;> cases h <;> first | omega | (simp; done) | (simp; omega)); have Hg4n := Lib.hid hg4n; clear hg4n; have hs4 := hon4.size; simp at hs4; have HB4 := Lib.hid hB4; clear ho4 hg4 hon4 hB4)
        | ((first | (refine step_app (g := g4) (xs := css.flatten) (m := 1) (news := [.int .u32 (x0 : Nat), .slice (some ⟨w4.heap.size, 0, none⟩) 1 1]) rfl (.tmp 31) (.tmp 37) 32 32 rfl hE ?_ rfl rfl ?_ ?_ ?_ ?_; (try rw [Nat.zero_add]); (first | exact (Ho4.out.alloc _).alloc _ | exact Ho4.out.alloc _ | exact Ho4.out); (refine srcManyE Tryz.underlying32 _ [_, _] _ _ 2 _ ?_ rfl ?_; (first | rfl | omega | (focus (simp; done))); (focus (simp [Value.oneCell']; done))); (first | (simp only [maxLen]; omega) | (focus (simp [maxLen]; done))); (first | omega | (focus (simp; done)))) | (refine step_app (g := g4) (xs := css.flatten) (m := 1) (news := [.int .u32 (x0 : Nat), .slice (some ⟨w2.heap.size + 1, 0, none⟩) 1 1]) rfl (.tmp 31) (.tmp 37) 32 32 rfl hE ?_ rfl rfl ?_ ?_ ?_ ?_; (try rw [Nat.zero_add]); (first | exact (Ho4.out.alloc _).alloc _ | exact Ho4.out.alloc _ | exact Ho4.out); (refine srcManyE Tryz.underlying32 _ [_, _] _ _ 2 _ ?_ rfl ?_; (first | rfl | omega | (focus (simp; done))); (focus (simp [Value.oneCell']; done))); (first | (simp only [maxLen]; omega) | (focus (simp [maxLen]; done))); (first | omega | (focus (simp; done)))) | (refine step_app (g := g4) (xs := css.flatten) (m := 1) (news := [.int .u32 (x0 : Nat), .slice (some ⟨w2.heap.size, 0, none⟩) 1 1]) rfl (.tmp 31) (.tmp 37) 32 32 rfl hE ?_ rfl rfl ?_ ?_ ?_ ?_; (try rw [Nat.zero_add]); (first | exact (Ho4.out.alloc _).alloc _ | exact Ho4.out.alloc _ | exact Ho4.out); (refine srcManyE Tryz.underlying32 _ [_, _] _ _ 2 _ ?_ rfl ?_; (first | rfl | omega | (focus (simp; done))); (focus (simp [Value.oneCell']; done))); (first | (simp only [maxLen]; omega) | (focus (simp [maxLen]; done))); (first | omega | (focus (simp; done)))) | (refine step_app (g := g4) (xs := css.flatten) (m := 1) (news := [.int .u32 (x0 : Nat), .slice (some ⟨w2.heap.size + 1, 0, none⟩) 1 1]) rfl (.tmp 31) (.tmp 37) 32 32 rfl hE ?_ rfl rfl ?_ ?_ ?_ ?_; (try rw [Nat.zero_add]); (first | exact (Ho4.out.alloc _).alloc _ | exact Ho4.out.alloc _ | exact Ho4.out); (refine srcBlk (t := 114) Tryz.underlying32 [_, _] 2 ?_ rfl ?_; (refine (Hon4.out.same _ ?_ ?_).trans ?_; (first | omega | (focus (simp; done)) | (simp; omega)); (first | (focus (simp; done)) | (simp; omega)); (focus (simp only [drew_heap, heap_alloc_ite, World.size_alloc, ↓IntWalk.iteOmega, if_true]; done))); (focus (simp [Value.oneCell']; done))); (first | (simp only [maxLen]; omega) | (focus (simp [maxLen]; done))); (first | omega | (focus (simp; done)))) | (refine step_app (g := g4) (xs := css.flatten) (m := 1) (news := [.int .u32 (x0 : Nat), .slice (some ⟨w2.heap.size, 0, none⟩) 1 1]) rfl (.tmp 31) (.tmp 37) 32 32 rfl hE ?_ rfl rfl ?_ ?_ ?_ ?_; (try rw [Nat.zero_add]); (first | exact (Ho4.out.alloc _).alloc _ | exact Ho4.out.alloc _ | exact Ho4.out); (refine srcBlk (t := 114) Tryz.underlying32 [_, _] 2 ?_ rfl ?_; (refine (Hon4.out.same _ ?_ ?_).trans ?_; (first | omega | (focus (simp; done)) | (simp; omega)); (first | (focus (simp; done)) | (simp; omega)); (focus (simp only [drew_heap, heap_alloc_ite, World.size_alloc, ↓IntWalk.iteOmega, if_true]; done))); (focus (simp [Value.oneCell']; done))); (first | (simp only [maxLen]; omega) | (focus (simp [maxLen]; done))); (first | omega | (focus (simp; done))))); intro ao5 cap5 g5 w5 ho5 hg5 hon5; have hB5 : Below w2.heap.size w2 w5 := HB4.out.trans ((by repeat (first | exact Below.refl _ _ | refine Below.drew ?_ | refine Below.alloc ?_ (by first | omega | (simp; try omega)) _) : Below w2.heap.size w4 _).trans (hon5.below (by first | omega | (simp; try omega)) (fun k hk e => by have := Hg4n.out k e; omega))); have e5 := ((bcell hB5).1 w.heap.size 0 (by omega)).trans e0; have b5 := ((bcell hB5).1 (w.heap.size + 1) 0 (by omega)).trans a0; have c5 := ((bcell hB5).1 (w.heap.size + 1) 1 (by omega)).trans a1; have hg5n : ∀ k, g5 = some k → w2.heap.size ≤ k := (fun k h => by rcases hg5 with e | e <;> rw [e] at h <;> first | exact Hg4n.out k h | (have h := Option.some.inj h; first | omega | (simp at h; omega))); have Hg5n := Lib.hid hg5n; have Ho5 := Lib.hid ho5; have Hon5 := Lib.hid hon5; have HB5 := Lib.hid hB5; clear ho5 hg5 hon5 hB5 hg5n)
        | fail "no arm")
    all_goals
      go_wp2_with fail
      go_ret
      have hB := HB2.out.trans (HB5.out.mono (by omega))
      have ho5 := Ho5.out
      try rw [Nat.zero_add] at ho5
      try rw [← Hlen.out] at ho5
      refine ⟨ao5, cap5, by rw [HWr.out]; first | (simp; done) | (have hl2 := Hlen.out; simp at hl2; simp [hl2]; done), by rw [HWr.out]; have := ho5.capLe.1; simpa using this, ho5.capLe.2, by rw [HWr.out]; exact with_new (x := (x0, x1, x2)) (ta := 85) Hall.out Hfp.out hB ho5 (by
        refine (Hon5.out.same _ ?_ ?_).trans ?_
        · first | omega | (simp; done) | (simp; omega) | skip
        · exact fun e => by first | (have := Ho4.out.lt _ e; omega) | (rcases Hg4.out with h | h <;> rw [h] at e <;> simp at e <;> omega)
        · first
            | (simp only [drew_heap, heap_alloc_ite, World.size_alloc, ↓IntWalk.iteOmega, if_true]; done)
            | (simp only [drew_heap, heap_alloc_ite, World.size_alloc, ↓IntWalk.iteOmega, if_true, if_false]; refine (Hon4.out.same _ ?_ ?_).trans ?_ <;> first | omega | (simp; done) | (simp; omega) | (simp only [drew_heap, heap_alloc_ite, World.size_alloc, ↓IntWalk.iteOmega, if_true]; done))
            | (refine (Hon4.out.same _ ?_ ?_).trans ?_ <;> first | omega | (simp; done) | (simp; omega) | (simp only [drew_heap, heap_alloc_ite, World.size_alloc, ↓IntWalk.iteOmega, if_true]; done))) Hx.out (fun b h => by have := Hg5n.out b h; omega) (by omega), hB⟩
  · obtain ⟨A, ⟨fr, arcs⟩, rfl⟩ : ∃ A r, l = A ++ [r] := by
      rcases List.eq_nil_or_concat l with h | ⟨A, r, h⟩
      · subst h; exact absurd rfl h0
      · exact ⟨A, r, by rw [h, List.concat_eq_append]⟩
    obtain ⟨b, off, ra, rc, rfl, hb, hc0, hc1, hfr, hrc, hrm, hra⟩ := hrd.row A.length (by simp)
    simp only [List.getElem_concat_length] at hc0 hc1 hfr hrc hra
    obtain ⟨ha0, ha1, hs1⟩ := hne A (fr, arcs) rfl
    simp only at ha0 ha1 hs1
    obtain ⟨css, hall, hsrc⟩ := hrd.srcAll oneRow (P := Tryz.prog) (tx := 32) Tryz.underlying32
    have hrdA := hrd.take A.length
    rw [List.take_left] at hrdA
    obtain ⟨cssA, hallA, hsrcA⟩ := hrdA.srcAll oneRow (P := Tryz.prog) (tx := 32) Tryz.underlying32
    have hlen : (A ++ [(fr, arcs)]).length = A.length + 1 := by simp
    rw [hlen] at hsrc hl hcap ⊢
    have hd : (((A.length : Nat) : Int) + 1 == 0) = false := by simp; omega
    have Hx := Lib.hid hx
    by_cases hf : fr = x0
    · subst hf
      have hq : ((fr : Int) != (fr : Int)) = false := by simp
      obtain ⟨B, ⟨t, y⟩, rfl⟩ : ∃ B r, arcs = B ++ [r] := by
        rcases List.eq_nil_or_concat arcs with h | ⟨A, r, h⟩
        · subst h; exact absurd ha0 (by simp)
        · exact ⟨A, r, by rw [h, List.concat_eq_append]⟩
      obtain ⟨cssB, hallB, hsrcB⟩ := hra.srcAll oneArc (P := Tryz.prog) (tx := 49) Tryz.underlying49
      have hlB : (B ++ [(t, y)]).length = B.length + 1 := by simp
      rw [hlB] at hsrcB hc1 hrc ha1
      have hs1 := hs1 rfl
      rw [sumA_append, sumA_one] at hs1
      simp only at hs1
      have hWr : withR (A ++ [(fr, B ++ [(t, y)])]) (fr, x1, x2) = A ++ [(fr, if t = x1 then B ++ [(t, y + x2)] else B ++ [(t, y)] ++ [(x1, x2)])] := by
        unfold withR
        rw [List.getLast?_concat]
        simp only [if_true, List.dropLast_concat]
        rw [addArc_snoc]
      have HWr := Lib.hid hWr
      have HsrcA := Lib.hid hsrcA
      have HsrcB := Lib.hid hsrcB
      have HallA := Lib.hid hallA
      have HallB := Lib.hid hallB
      have HAl : Hid (A.length = A.length) := Lib.hid rfl
      have HBl : Hid (B.length = B.length) := Lib.hid rfl
      have hn1 : A.length ≤ 100000 := by omega
      have hk1 : B.length ≤ 1000000 := by omega
      generalize hAn : A.length = n at hsrcA hc0 hc1 hcap hd hn1 hl HsrcA HAl ⊢
      generalize hBk : B.length = k at hsrcB hc1 hrc ha1 hk1 HsrcB HBl ⊢
      have HAn := Lib.hid hAn
      have HBk := Lib.hid hBk
      clear hall hsrc hrd hne hx hallA hsrcA hrdA hra ha0 hlen h0 hWr hallB hsrcB hAn hBk hlB
      go_enter Tryz.func60, Tryz.ntmps60
      go_wp2_with fail
      go_quiet (fail)
      go_wp2_with (at_builtin; refine wpList_app rfl (.tmp 45) (.tmp 47) 49 49 rfl hEa (Own.emptyAt _ 85 2 _ (by simp)) rfl rfl (HsrcB.out _ (((below_drewN ((ext_alloc w _).alloc (by simp) _) _).alloc (by simp; omega) _).alloc (by simp; omega) _) _) (by simp [maxLen]; omega) (by omega) ?_; intro ao3 cap3 g3 w3 ho3 hg3 hon3)
      have hB3 : Below (w.heap.size + 3) ((((w.alloc (Obj.cells #[Value.int IntKind.u32 (fr : Nat), Value.int IntKind.u32 (x1 : Nat), Value.int IntKind.u32 (x2 : Nat)] 48)).alloc (Obj.cells #[Value.int IntKind.u32 (x1 : Nat), Value.int IntKind.u32 (x2 : Nat)] 85)).drewN nq).alloc (Obj.cells #[Value.int IntKind.u32 (fr : Nat), Value.slice ra (k + 1) rc] 114)) w3 :=
        (ext_alloc _ _).mono (by simp) |>.trans (hon3.below (by simp) (fun j hj e => by cases e; simp at hj))
      have hBw : Below w.heap.size w w3 := (((below_drewN ((ext_alloc w _).alloc (by simp) _) _).alloc (by simp; omega) _)).trans (hB3.mono (by omega))
      have e0 := ((bcell hB3).1 w.heap.size 0 (by omega)).trans (show _ = some (Value.int .u32 (fr : Nat)) by simp [go_sem, ↓IntWalk.iteOmega])
      have e1 := ((bcell hB3).1 w.heap.size 1 (by omega)).trans (show _ = some (Value.int .u32 (x1 : Nat)) by simp [go_sem, ↓IntWalk.iteOmega])
      have e2 := ((bcell hB3).1 w.heap.size 2 (by omega)).trans (show _ = some (Value.int .u32 (x2 : Nat)) by simp [go_sem, ↓IntWalk.iteOmega])
      have a0 := ((bcell hB3).1 (w.heap.size + 1) 0 (by omega)).trans (show _ = some (Value.int .u32 (x1 : Nat)) by simp [go_sem, ↓IntWalk.iteOmega])
      have a1 := ((bcell hB3).1 (w.heap.size + 1) 1 (by omega)).trans (show _ = some (Value.int .u32 (x2 : Nat)) by simp [go_sem, ↓IntWalk.iteOmega])
      have hs3 := hB3.size
      simp at hs3
      rw [Nat.zero_add, List.nil_append] at ho3
      obtain ⟨bb, rfl, rfl, hbb⟩ := ho3.pos (by omega)
      have hO : OwnS arcRep (fun _ => False) w3 (some ⟨bb, 0, none⟩) cap3 (some bb) 85 (B ++ [(t, y)]) := ⟨cssB, by have e : (B ++ [(t, y)]).length = k + 1 := (by simp [HBk.out]); rw [e]; exact ho3, forall2_imp (fun _ _ h => arc_fp h) HallB.out⟩
      have hbn : w.heap.size + 3 ≤ bb := by
        rcases hg3 with h | h
        · simp at h; omega
        · simp at h; omega
      obtain ⟨m, z, hm, _, ⟨z1, z2, rfl, ⟨rfl, ht⟩, ⟨rfl, hy⟩⟩⟩ := all2_snoc HallB.out
      have hml : m.flatten.length = k * 2 := by
        have h1 := ho3.1
        rw [hm] at h1
        simp at h1
        simpa using (show m.flatten.length = k * 2 by simp; omega)
      have c0 : w3.cell? ⟨bb, k * 2, none⟩ = some (.int .u32 (t : Nat)) := by
        rw [ho3.cell (k * 2) (by omega), hm, List.flatten_append, List.getElem?_append_right (by omega), hml, Nat.sub_self]; rfl
      have c1 : w3.cell? ⟨bb, k * 2 + 1, none⟩ = some (.int .u32 (y : Nat)) := by
        rw [ho3.cell (k * 2 + 1) (by omega), hm, List.flatten_append, List.getElem?_append_right (by omega), hml, Nat.add_sub_cancel_left]; rfl
      have f1 : w3.frozen? ⟨bb, k * 2 + 1, none⟩ = false := ho3.frozen _
      have HO := Lib.hid hO
      have HBw := Lib.hid hBw
      have HO3 := Lib.hid ho3
      have hk2 : (0 : Int) ≤ (k : Int) := by omega
      clear hB3 ho3 hg3 hon3 hO hBw hm hml hc0 hc1 hs3
      by_cases htx : t = x1
      · have hq2 : ((t : Int) == (x1 : Int)) = true := by simp [htx]
        rw [if_pos htx] at HWr
        clear htx
        go_wp2_with fail
        go_quiet (fail)
        go_wp2_with fail
        have hib : (k : Int) < ((k + 1 : Nat) : Int) := by omega
        have hib2 : (k : Int) < (k : Int) + 1 := by omega
        have hkw : IntKind.i64.wrap (k : Int) = (k : Int) := IntWalk.i64_in _ (by omega)
        refine wp_region_still_tail 16 (by kernel_rfl) (by kernel_rfl) ?_
        change wpStill _ _ (World.drew _) _ _ _
        simp only [List.take_succ_cons, List.take_zero, List.drop_succ_cons, List.drop_zero]
        repeat still_step
        refine wpStill_nil ?_
        clear hkw
        have hB7 : Below w.heap.size w ((w3.drewN (nq + 1)).setCell ⟨bb, k * 2 + 1, none⟩ (.int .u32 ((y : Int) + (x2 : Int)))) := (HBw.out.trans ((ext_drewN w3 (nq + 1)).mono HBw.out.size)).setCell (by simp; omega) _
        have e7 : ((w3.drewN (nq + 1)).setCell ⟨bb, k * 2 + 1, none⟩ (.int .u32 ((y : Int) + (x2 : Int)))).cell? ⟨w.heap.size, 0, none⟩ = some (.int .u32 (fr : Nat)) := by
          have hne : ¬ w.heap.size = bb := by omega
          simp [go_sem, cell_set_ite, hne, e0]
        have hO7 : OwnS arcRep (fun _ => False) ((w3.drewN (nq + 1)).setCell ⟨bb, k * 2 + 1, none⟩ (.int .u32 ((y : Int) + (x2 : Int)))) (some ⟨bb, 0, none⟩) cap3 (some bb) 85 (B ++ [(t, y + x2)]) := by
          have h := (HO.out.ext (ext_drewN w3 (nq + 1))).arcAdd (z := y + x2) (by omega)
          rw [HBk.out, Int.natCast_add] at h
          exact h
        have hs7 : w.heap.size + 3 ≤ ((w3.drewN (nq + 1)).setCell ⟨bb, k * 2 + 1, none⟩ (.int .u32 ((y : Int) + (x2 : Int)))).heap.size := by simp; omega
        have HB7 := Lib.hid hB7
        have HWs : Hid (w.heap.size ≤ ((w3.drewN (nq + 1)).setCell ⟨bb, k * 2 + 1, none⟩ (.int .u32 ((y : Int) + (x2 : Int)))).heap.size) := Lib.hid hB7.size
        have HO7 := Lib.hid hO7
        have hL : (B ++ [(t, y + x2)]).length = k + 1 := by simp [HBk.out]
        have HL := Lib.hid hL
        clear hB7 hO7 hL
        change wpList _ _ _ _ _ (World.drew _)
        go_wp2_with (first
          | (at_builtin; refine wpList_app rfl (.tmp 79) (.tmp 84) 32 32 rfl hE (Own.emptyAt _ 114 2 _ (by simp)) rfl rfl (HsrcA.out _ (HB7.out.alloc (HB7.out).size _) _) (by simp [maxLen]; omega) (by omega) ?_; intro ao8 cap8 g8 w8 ho8 hg8 hon8; rw [Nat.zero_add, List.nil_append] at ho8; have hB8 := (ext_alloc ((w3.drewN (nq + 1)).setCell ⟨bb, k * 2 + 1, none⟩ (.int .u32 ((y : Int) + (x2 : Int)))) _).trans (hon8.below (by simp) (fun j hj e => by have := Option.some.inj e; first | omega | (simp at hj this; omega) | (simp at hj; omega) | (simp at this; omega))); have e8 := ((bcell hB8).1 w.heap.size 0 (by omega)).trans e7; have hs8 := hB8.size; have Ho8 := Lib.hid ho8; have HB8 := Lib.hid hB8; have hg8n : ∀ j, g8 = some j → ((w3.drewN (nq + 1)).setCell ⟨bb, k * 2 + 1, none⟩ (.int .u32 ((y : Int) + (x2 : Int)))).heap.size ≤ j := (fun j h => by rcases hg8 with e | e <;> rw [e] at h <;> have h := Option.some.inj h <;> first | omega | (simp at h ⊢; omega) | (simp; omega)); have Hg8n := Lib.hid hg8n; clear ho8 hB8 hg8 hon8 hg8n)
          | (at_builtin; refine wpList_app rfl (.tmp 86) (.tmp 91) 32 32 rfl hE (Ho8.out.alloc _) rfl rfl (srcManyE Tryz.underlying32 _ [_, _] _ _ 2 _ (by simp) rfl (by simp [Value.oneCell'])) (by simp [maxLen]; omega) (by omega) ?_; intro ao9 cap9 g9 w9 ho9 hg9 hon9; have hg9n : ∀ j, g9 = some j → w.heap.size ≤ j := (fun j h => by rcases hg9 with e | e <;> rw [e] at h <;> first | exact Nat.le_trans HWs.out (Hg8n.out j h) | (have h := Option.some.inj h; first | omega | (simp at h; omega) | (have := HWs.out; simp at this h hs8; omega))); have Hg9n := Lib.hid hg9n; have Ho9 := Lib.hid ho9; have Hon9 := Lib.hid hon9; clear ho9 hg9 hon9 hg9n))
        go_ret
        have hL := HL.out
        refine ⟨ao9, cap9, by rw [HWr.out]; simp [HAn.out], by rw [HWr.out]; have := Ho9.out.capLe.1; simpa [HAn.out] using this, Ho9.out.capLe.2, ?_, ?_⟩
        · rw [HWr.out]
          have ho9 := Ho9.out
          have hB89 : Below ((w3.drewN (nq + 1)).setCell ⟨bb, k * 2 + 1, none⟩ (.int .u32 ((y : Int) + (x2 : Int)))).heap.size ((w3.drewN (nq + 1)).setCell ⟨bb, k * 2 + 1, none⟩ (.int .u32 ((y : Int) + (x2 : Int)))) w9 := HB8.out.trans ((ext_alloc w8 _).mono hs8 |>.trans (Hon9.out.below (by first | omega | (simp; omega) | (simp at hs8 ⊢; omega)) (fun j hj e => by have := Hg8n.out j e; omega)))
          refine with_last HallA.out Hfp.out (HB7.out.trans (hB89.mono (HB7.out).size)) (by rw [HAn.out]; have h := ho9; rw [← hL] at h; exact h) ((HO7.out.rd.mono (fun b h _ => h.elim (fun h => h.elim) (fun h => by cases h; omega))).keep (fun b _ hl => hB89.block b hl) hB89.size) (HO7.out.capLe).1 (HO7.out.capLe).2 hfr (fun b h => by have := Hg9n.out b h; have := (HB7.out).size; omega)
        · exact HB7.out.trans ((HB8.out.trans ((ext_alloc w8 _).mono hs8 |>.trans (Hon9.out.below (by first | omega | (simp; omega) | (simp at hs8 ⊢; omega)) (fun j hj e => by have := Hg8n.out j e; omega)))).mono (HB7.out).size)
      · have hq2 : ((t : Int) == (x1 : Int)) = false := by simp; omega
        rw [if_neg htx] at HWr
        clear htx
        go_wp2_with fail
        go_quiet (fail)
        go_wp2_with (first
          | (at_builtin; refine wpList_app rfl (.tmp 75) (.tmp 77) 49 49 rfl hEa ((HO3.out.ext (ext_drewN _ _)).alloc _) rfl rfl (srcManyE Tryz.underlying49 _ [_, _] _ _ 2 _ (by simp) rfl (by simp [Value.oneCell'])) (by simp [maxLen]; omega) (by omega) ?_; intro ao4 cap4 g4 w4 ho4 hg4 hon4; have hB4 : Below (w.heap.size + 3) w3 w4 := (((ext_drewN w3 _).alloc (by simp) _).mono (by omega)).trans (hon4.below (by simp; omega) (fun j hj e => by have := Option.some.inj e; omega)); have e4 := ((bcell hB4).1 w.heap.size 0 (by omega)).trans e0; have hB4w := HBw.out.trans (hB4.mono (by omega)); have HWs := Lib.hid hB4w.size; have hg4n : ∀ j, g4 = some j → w.heap.size ≤ j := (fun j h => by rcases hg4 with e | e <;> rw [e] at h <;> have h := Option.some.inj h <;> first | omega | (simp at h; omega)); have Hg4n := Lib.hid hg4n; clear hg4n; have Ho4 := Lib.hid ho4; have HB4 := Lib.hid hB4w; have hs4 := hB4.size; clear ho4 hg4 hon4 hB4 hB4w c0 c1 f1 e0 e1 e2 a0 a1)
          | (at_builtin; refine wpList_app rfl (.tmp 79) (.tmp 84) 32 32 rfl hE (Own.emptyAt _ 114 2 _ (by simp)) rfl rfl (HsrcA.out _ (HB4.out.alloc (HB4.out).size _) _) (by simp [maxLen]; omega) (by omega) ?_; intro ao8 cap8 g8 w8 ho8 hg8 hon8; rw [Nat.zero_add, List.nil_append] at ho8; have hB8 := (ext_alloc w4 _).trans (hon8.below (by simp) (fun j hj e => by have := Option.some.inj e; first | omega | (simp at hj this; omega) | (simp at hj; omega) | (simp at this; omega))); have e8 := ((bcell hB8).1 w.heap.size 0 (by omega)).trans e4; have hs8 := hB8.size; have Ho8 := Lib.hid ho8; have HB8 := Lib.hid hB8; have hg8n : ∀ j, g8 = some j → w4.heap.size ≤ j := (fun j h => by rcases hg8 with e | e <;> rw [e] at h <;> have h := Option.some.inj h <;> first | omega | (simp at h ⊢; omega) | (simp; omega)); have Hg8n := Lib.hid hg8n; clear ho8 hB8 hg8 hon8 hg8n)
          | (at_builtin; refine wpList_app rfl (.tmp 86) (.tmp 91) 32 32 rfl hE (Ho8.out.alloc _) rfl rfl (srcManyE Tryz.underlying32 _ [_, _] _ _ 2 _ (by simp) rfl (by simp [Value.oneCell'])) (by simp [maxLen]; omega) (by omega) ?_; intro ao9 cap9 g9 w9 ho9 hg9 hon9; have hg9n : ∀ j, g9 = some j → w.heap.size ≤ j := (fun j h => by rcases hg9 with e | e <;> rw [e] at h <;> first | exact Nat.le_trans HWs.out (Hg8n.out j h) | (have h := Option.some.inj h; first | omega | (simp at h; omega) | (have := HWs.out; simp at this h hs8; omega))); have Hg9n := Lib.hid hg9n; have Ho9 := Lib.hid ho9; have Hon9 := Lib.hid hon9; clear ho9 hg9 hon9 hg9n))
        go_ret
        have hL : (B ++ [(t, y)] ++ [(x1, x2)]).length = k + 1 + 1 := by simp [HBk.out]
        have hO4 : OwnS arcRep (fun _ => False) w4 ao4 cap4 g4 85 (B ++ [(t, y)] ++ [(x1, x2)]) := ⟨cssB ++ [arcCs (x1, x2)], by rw [hL]; simpa using (show Own w4 ao4 cap4 g4 85 arcRep.size (k + 1 + 1) (cssB.flatten ++ arcCs (x1, x2)) from Ho4.out), all2_append (forall2_imp (fun _ _ h => arc_fp h) HallB.out) (.cons (arcRep_ok ⟨Hx.out.2.1, Hx.out.2.2⟩) .nil)⟩
        refine ⟨ao9, cap9, by rw [HWr.out]; simp [HAn.out], by rw [HWr.out]; have := Ho9.out.capLe.1; simpa [HAn.out] using this, Ho9.out.capLe.2, ?_, ?_⟩
        · rw [HWr.out]
          have ho9 := Ho9.out
          have hB89 : Below w4.heap.size w4 w9 := HB8.out.trans ((ext_alloc w8 _).mono hs8 |>.trans (Hon9.out.below (by first | omega | (simp; omega) | (simp at hs8 ⊢; omega)) (fun j hj e => by have := Hg8n.out j e; omega)))
          refine with_last HallA.out Hfp.out (HB4.out.trans (hB89.mono (HB4.out).size)) (by rw [HAn.out]; have h := ho9; rw [← hL] at h; exact h) ((hO4.rd.mono (fun b h _ => h.elim (fun h => h.elim) (fun h => Hg4n.out b h))).keep (fun b _ hl => hB89.block b hl) hB89.size) (hO4.capLe).1 (hO4.capLe).2 hfr (fun b h => by have := Hg9n.out b h; have := (HB4.out).size; omega)
        · exact HB4.out.trans ((HB8.out.trans ((ext_alloc w8 _).mono hs8 |>.trans (Hon9.out.below (by first | omega | (simp; omega) | (simp at hs8 ⊢; omega)) (fun j hj e => by have := Hg8n.out j e; omega)))).mono (HB4.out).size)
    · have hq : ((fr : Int) != (x0 : Int)) = true := by simp; omega
      have HWr := Lib.hid (show withR (A ++ [(fr, arcs)]) (x0, x1, x2) = (A ++ [(fr, arcs)]) ++ [(x0, [(x1, x2)])] by
        unfold withR
        rw [List.getLast?_concat]
        simp only
        rw [if_neg hf])
      have Hlen := Lib.hid hlen
      have Hsrc := Lib.hid hsrc
      have Hall := Lib.hid hall
      generalize A.length = n at *
      clear hall hsrc hrd hne hx hallA hsrcA hrdA hf hra ha0 ha1 hs1 hlen h0
      go_enter Tryz.func60, Tryz.ntmps60
      go_wp2_with fail
      go_quiet (fail)
      go_wp2_with fail
      obtain ⟨w2, hw2⟩ : ∃ w2, ((w.alloc (Obj.cells #[Value.int IntKind.u32 (x0 : Nat), Value.int IntKind.u32 (x1 : Nat), Value.int IntKind.u32 (x2 : Nat)] 48)).alloc (Obj.cells #[Value.int IntKind.u32 (x1 : Nat), Value.int IntKind.u32 (x2 : Nat)] 85)).drewN nq = w2 := ⟨_, rfl⟩
      have hB2 : Below w.heap.size w w2 := by rw [← hw2]; exact below_drewN ((ext_alloc w _).alloc (by simp) _) _
      have hs2 : w.heap.size + 2 ≤ w2.heap.size := by rw [← hw2]; simp
      have e0 : w2.cell? ⟨w.heap.size, 0, none⟩ = some (.int .u32 (x0 : Nat)) := by rw [← hw2]; simp [go_sem, ↓IntWalk.iteOmega]
      have a0 : w2.cell? ⟨w.heap.size + 1, 0, none⟩ = some (.int .u32 (x1 : Nat)) := by rw [← hw2]; simp [go_sem, ↓IntWalk.iteOmega]
      have a1 : w2.cell? ⟨w.heap.size + 1, 1, none⟩ = some (.int .u32 (x2 : Nat)) := by rw [← hw2]; simp [go_sem, ↓IntWalk.iteOmega]
      rw [hw2]
      have HB2 := Lib.hid hB2
      clear hw2 hB2
      go_region_held3 (fun w' => w'.cell? ⟨w.heap.size, 0, none⟩ = some (.int .u32 (x0 : Nat)) ∧ w'.cell? ⟨w.heap.size + 1, 0, none⟩ = some (.int .u32 (x1 : Nat)) ∧ w'.cell? ⟨w.heap.size + 1, 1, none⟩ = some (.int .u32 (x2 : Nat))) (first | exact ⟨e0, a0, a1⟩ | exact ⟨e4, b4, c4⟩ | exact ⟨e5, b5, c5⟩ | (refine ⟨?_, ?_, ?_⟩ <;> simp [go_sem, ↓IntWalk.iteOmega, e0, a0, a1]; done) | (refine ⟨?_, ?_, ?_⟩ <;> simp [go_sem, ↓IntWalk.iteOmega, e4, b4, c4]; done) | go_keep)
        (first
          | (refine step_app rfl (.tmp 29) (.tmp 30) 32 32 rfl hE (own_empty (by simp only [drew_heap, heap_alloc_ite, World.size_alloc, ↓IntWalk.iteOmega, if_true])) rfl rfl (Hsrc.out _ (HB2.out.trans ((by repeat (first | exact Below.refl _ _ | refine Below.drew ?_ | refine Below.alloc ?_ (by first | omega | (simp; try omega)) _) : Below w2.heap.size w2 _).mono (by omega))) _) (by first | (simp only [maxLen]; omega) | (simp [maxLen]; done)) (by first | omega | (simp; done)) ?_; intro ao4 cap4 g4 w4 ho4 hg4 hon4; rw [Nat.zero_add, List.nil_append] at ho4; have hB4 : Below w2.heap.size w2 w4 := Below.trans (by repeat (first | exact Below.refl _ _ | refine Below.drew ?_ | refine Below.alloc ?_ (by first | omega | (simp; try omega)) _)) (hon4.below (by simp; try omega) (fun k hk e => by cases e; omega)); have e4 := ((bcell hB4).1 w.heap.size 0 (by omega)).trans e0; have b4 := ((bcell hB4).1 (w.heap.size + 1) 0 (by omega)).trans a0; have c4 := ((bcell hB4).1 (w.heap.size + 1) 1 (by omega)).trans a1; have Ho4 := Lib.hid ho4; have Hg4 := Lib.hid hg4; have Hon4 := Lib.hid hon4; have hg4n : ∀ k, g4 = some k → w2.heap.size ≤ k := (fun k h => by rcases hg4 with e | e <;> rw [e] at h <;> cases h <;> first | omega | (simp; done) | (simp; omega)); have Hg4n := Lib.hid hg4n; clear hg4n; have hs4 := hon4.size; simp at hs4; have HB4 := Lib.hid hB4; clear ho4 hg4 hon4 hB4)
          | ((first | (refine step_app (g := g4) (xs := css.flatten) (m := 1) (news := [.int .u32 (x0 : Nat), .slice (some ⟨w4.heap.size, 0, none⟩) 1 1]) rfl (.tmp 31) (.tmp 37) 32 32 rfl hE ?_ rfl rfl ?_ ?_ ?_ ?_; (try rw [Nat.zero_add]); (first | exact (Ho4.out.alloc _).alloc _ | exact Ho4.out.alloc _ | exact Ho4.out); (refine srcManyE Tryz.underlying32 _ [_, _] _ _ 2 _ ?_ rfl ?_; (first | rfl | omega | (focus (simp; done))); (focus (simp [Value.oneCell']; done))); (first | (simp only [maxLen]; omega) | (focus (simp [maxLen]; done))); (first | omega | (focus (simp; done)))) | (refine step_app (g := g4) (xs := css.flatten) (m := 1) (news := [.int .u32 (x0 : Nat), .slice (some ⟨w2.heap.size + 1, 0, none⟩) 1 1]) rfl (.tmp 31) (.tmp 37) 32 32 rfl hE ?_ rfl rfl ?_ ?_ ?_ ?_; (try rw [Nat.zero_add]); (first | exact (Ho4.out.alloc _).alloc _ | exact Ho4.out.alloc _ | exact Ho4.out); (refine srcManyE Tryz.underlying32 _ [_, _] _ _ 2 _ ?_ rfl ?_; (first | rfl | omega | (focus (simp; done))); (focus (simp [Value.oneCell']; done))); (first | (simp only [maxLen]; omega) | (focus (simp [maxLen]; done))); (first | omega | (focus (simp; done)))) | (refine step_app (g := g4) (xs := css.flatten) (m := 1) (news := [.int .u32 (x0 : Nat), .slice (some ⟨w2.heap.size, 0, none⟩) 1 1]) rfl (.tmp 31) (.tmp 37) 32 32 rfl hE ?_ rfl rfl ?_ ?_ ?_ ?_; (try rw [Nat.zero_add]); (first | exact (Ho4.out.alloc _).alloc _ | exact Ho4.out.alloc _ | exact Ho4.out); (refine srcManyE Tryz.underlying32 _ [_, _] _ _ 2 _ ?_ rfl ?_; (first | rfl | omega | (focus (simp; done))); (focus (simp [Value.oneCell']; done))); (first | (simp only [maxLen]; omega) | (focus (simp [maxLen]; done))); (first | omega | (focus (simp; done)))) | (refine step_app (g := g4) (xs := css.flatten) (m := 1) (news := [.int .u32 (x0 : Nat), .slice (some ⟨w2.heap.size + 1, 0, none⟩) 1 1]) rfl (.tmp 31) (.tmp 37) 32 32 rfl hE ?_ rfl rfl ?_ ?_ ?_ ?_; (try rw [Nat.zero_add]); (first | exact (Ho4.out.alloc _).alloc _ | exact Ho4.out.alloc _ | exact Ho4.out); (refine srcBlk (t := 114) Tryz.underlying32 [_, _] 2 ?_ rfl ?_; (refine (Hon4.out.same _ ?_ ?_).trans ?_; (first | omega | (focus (simp; done)) | (simp; omega)); (first | (focus (simp; done)) | (simp; omega)); (focus (simp only [drew_heap, heap_alloc_ite, World.size_alloc, ↓IntWalk.iteOmega, if_true]; done))); (focus (simp [Value.oneCell']; done))); (first | (simp only [maxLen]; omega) | (focus (simp [maxLen]; done))); (first | omega | (focus (simp; done)))) | (refine step_app (g := g4) (xs := css.flatten) (m := 1) (news := [.int .u32 (x0 : Nat), .slice (some ⟨w2.heap.size, 0, none⟩) 1 1]) rfl (.tmp 31) (.tmp 37) 32 32 rfl hE ?_ rfl rfl ?_ ?_ ?_ ?_; (try rw [Nat.zero_add]); (first | exact (Ho4.out.alloc _).alloc _ | exact Ho4.out.alloc _ | exact Ho4.out); (refine srcBlk (t := 114) Tryz.underlying32 [_, _] 2 ?_ rfl ?_; (refine (Hon4.out.same _ ?_ ?_).trans ?_; (first | omega | (focus (simp; done)) | (simp; omega)); (first | (focus (simp; done)) | (simp; omega)); (focus (simp only [drew_heap, heap_alloc_ite, World.size_alloc, ↓IntWalk.iteOmega, if_true]; done))); (focus (simp [Value.oneCell']; done))); (first | (simp only [maxLen]; omega) | (focus (simp [maxLen]; done))); (first | omega | (focus (simp; done))))); intro ao5 cap5 g5 w5 ho5 hg5 hon5; have hB5 : Below w2.heap.size w2 w5 := HB4.out.trans ((by repeat (first | exact Below.refl _ _ | refine Below.drew ?_ | refine Below.alloc ?_ (by first | omega | (simp; try omega)) _) : Below w2.heap.size w4 _).trans (hon5.below (by first | omega | (simp; try omega)) (fun k hk e => by have := Hg4n.out k e; omega))); have e5 := ((bcell hB5).1 w.heap.size 0 (by omega)).trans e0; have b5 := ((bcell hB5).1 (w.heap.size + 1) 0 (by omega)).trans a0; have c5 := ((bcell hB5).1 (w.heap.size + 1) 1 (by omega)).trans a1; have hg5n : ∀ k, g5 = some k → w2.heap.size ≤ k := (fun k h => by rcases hg5 with e | e <;> rw [e] at h <;> first | exact Hg4n.out k h | (have h := Option.some.inj h; first | omega | (simp at h; omega))); have Hg5n := Lib.hid hg5n; have Ho5 := Lib.hid ho5; have Hon5 := Lib.hid hon5; have HB5 := Lib.hid hB5; clear ho5 hg5 hon5 hB5 hg5n)
          | fail "no arm")
      all_goals
        go_wp2_with fail
        go_ret
        have hB := HB2.out.trans (HB5.out.mono (by omega))
        have ho5 := Ho5.out
        try rw [Nat.zero_add] at ho5
        try rw [← Hlen.out] at ho5
        refine ⟨ao5, cap5, by rw [HWr.out]; first | (simp; done) | (have hl2 := Hlen.out; simp at hl2; simp [hl2]; done), by rw [HWr.out]; have := ho5.capLe.1; simpa using this, ho5.capLe.2, by rw [HWr.out]; exact with_new (x := (x0, x1, x2)) (ta := 85) Hall.out Hfp.out hB ho5 (by
          refine (Hon5.out.same _ ?_ ?_).trans ?_
          · first | omega | (simp; done) | (simp; omega) | skip
          · exact fun e => by first | (have := Ho4.out.lt _ e; omega) | (rcases Hg4.out with h | h <;> rw [h] at e <;> simp at e <;> omega)
          · first
              | (simp only [drew_heap, heap_alloc_ite, World.size_alloc, ↓IntWalk.iteOmega, if_true]; done)
              | (simp only [drew_heap, heap_alloc_ite, World.size_alloc, ↓IntWalk.iteOmega, if_true, if_false]; refine (Hon4.out.same _ ?_ ?_).trans ?_ <;> first | omega | (simp; done) | (simp; omega) | (simp only [drew_heap, heap_alloc_ite, World.size_alloc, ↓IntWalk.iteOmega, if_true]; done))
              | (refine (Hon4.out.same _ ?_ ?_).trans ?_ <;> first | omega | (simp; done) | (simp; omega) | (simp only [drew_heap, heap_alloc_ite, World.size_alloc, ↓IntWalk.iteOmega, if_true]; done))) Hx.out (fun b h => by have := Hg5n.out b h; omega) (by omega), hB⟩
end Go.Proofs.YtcklfffeimnfeaaGreat
