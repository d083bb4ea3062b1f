/- A region that draws its order, within a round. No program in sight. -/
import Derived.Test.YtlgnpogmgpgdaaaSl
import Derived.Test.YtlgnpogmgpgdaaaRangeT
import Derived.Sort.QuietIn
namespace Go.Proofs.Ytlgnpogmgpgdaaa
set_option linter.unusedSimpArgs false
set_option linter.unusedVariables false
set_option maxRecDepth 100000
open Go.RowKit

theorem upon_round {F : Fence} {n : Nat} {P : Program} {o : Oper} {a : Act} {K : Act → World → Prop} {Q : Exit → Act → World → Prop} (l : Nat) : ∀ {r : Result Next}, o.uponIn F n P a K Q r → o.uponIn (F.inRound l) n P a K Q r
  | .ok (.value _) _, h => h
  | .ok .skip _, h => h
  | .ok (.defer _) _, h => h
  | .ok (.enter _ _) _, h => h
  | .ok (.row _ _) _, h => h
  | .ok (.round _ _ _ _ _) _, h => h
  | .halt (.panic _) _, h => h
  | .halt (.fatal _) _, h => h
  | .halt (.unsupported _) _, h => h
theorem oper_round {F : Fence} {n : Nat} {P : Program} {o : Oper} {a : Act} {w : World} {K : Act → World → Prop} {Q : Exit → Act → World → Prop} (l : Nat) (hro : F.round = none) (hnd : ∀ c, o.op ≠ .defer c) (h : o.wpIn F n P a w K Q) : o.wpIn (F.inRound l) n P a w K Q := by
  refine ⟨h.1, ?_⟩
  have h2 := h.2
  rw [hro, Oper.semAt_none] at h2
  rw [Fence.inRound_round, Oper.semAt_eq _ _ _ hnd]
  exact upon_round l h2
def noDefer (ops : Array Oper) : Bool := ops.all (fun o => match o.op with | .defer _ => false | _ => true)
theorem noDefer_get {ops : Array Oper} (h : noDefer ops = true) {i : Nat} {o : Oper} (ho : ops[i]? = some o) : ∀ c, o.op ≠ .defer c := by
  intro c e
  obtain ⟨hi, rfl⟩ := Array.getElem?_eq_some_iff.1 ho
  have := Array.all_eq_true.1 h i hi
  rw [e] at this
  cases this
theorem anyIn_round {F : Fence} {n : Nat} {P : Program} {md : Region.Mode} {ops : Array Oper} {Q : Exit → Act → World → Prop} (l : Nat) (hro : F.round = none) (hnd : noDefer ops = true) : ∀ (fuel : Nat) (listed : Array Bool) (a : Act) (w : World),
    wpAnyIn F n P md ops Q fuel listed a w → wpAnyIn (F.inRound l) n P md ops Q fuel listed a w
  | 0, _, _, _, h => h
  | fuel + 1, _, a, w, h => ⟨h.1, fun i hi => by
    have h2 := wpOpIn_mono (fun a' w' h' => anyIn_round l hro hnd fuel _ a' w' h') (h.2 i hi)
    unfold wpOpIn at h2 ⊢
    split
    · rename_i ho; simp only [ho] at h2; exact h2
    · rename_i o ho
      simp only [ho] at h2
      split
      · rename_i hw; simp only [hw, if_true] at h2; exact oper_round l hro (noDefer_get hnd ho) h2
      · rename_i hw; simp only [hw] at h2; exact h2⟩
/-- the quiet law, in a round -/
theorem quiet_round {id l : Nat} {P : Program} {Q : Exit → Act → World → Prop} {a : Act} {w : World} {ops : List Oper} (hm : P.follows .mixedOrders = true) (hB : Region.lexB .any ops.toArray = true) (hnd : noDefer ops.toArray = true)
    (h : wpQuietIn Fence.wide 0 P ops.toArray (fun w' => ∃ n, w' = w.drewN n) (fun a' => ∀ w', (∃ n, w' = w.drewN n) → Q .normal a' w') ops a) : (Code.region id ops.toArray true).wpIn (Fence.wide.inRound l) 0 P Q a w := by
  simp only [Region.lexB, Bool.and_eq_true] at hB
  refine wpIn_region_any hm (anyIn_round l rfl hnd _ _ _ _ (wpAnyIn_of_quiet (C := fun w' => ∃ n, w' = w.drewN n) (Q := fun a' => ∀ w', (∃ n, w' = w.drewN n) → Q .normal a' w') rfl (fun _ w' hw' h => h w' hw') _ _ _ _ ⟨1, rfl⟩ ?_))
  have := wpAnyQIn_lex (F := Fence.wide) (n := 0) (C := fun w' => ∃ n, w' = w.drewN n) (md := .any) hB.1 ops 0 (Array.replicate ops.toArray.size false) a (by simp) (by simpa using hB.2) h
  simpa using this
/-- append in a region that draws, in a fence or a round -/
theorem step_appIn {F : Fence} {m0 : Nat} {P : Program} {ops : Array Oper} {o : Oper} {a : Act} {w : World} {K : Act → World → Prop} {Q : Exit → Act → World → Prop} {E : Prop} (hF : ∀ f, F.fn f)
    (hg : o.guard = none) (s x : Operand) (t tx : TypeId) (hop : o.op = Op.call { callee := Callee.builtin Builtin.append, args := #[s, x], argTypes := #[t, tx] })
    {e : TypeId} {size bytes : Nat} {z : Value} (hE : Elem P t e size bytes z) {ao : Option Addr} {cap : Nat} {g : Option Nat} {n : Nat} {xs : List Value} (ho : Own w ao cap g e size n xs) (hs : a.eval s = .slice ao n cap)
    {xv : Value} {m : Nat} {news : List Value} (hx : a.eval x = xv) (hsrc : Src P size tx xv m news w) (h63 : n + m ≤ maxLen) (hb : (n + m) * bytes ≤ 140737488355328)
    (hK : ∀ ao' cap' g' w', Own w' ao' cap' g' e size (n + m) (xs ++ news) → (g' = g ∨ g' = some w.heap.size) → Only (fun k => g = some k) w w' → K (a.put o.dst (.slice ao' (n + m) cap')) w') :
    if Region.wanted o (yielded ops a.tmps) = true then Oper.wpIn F m0 P o a w K Q else E := by
  have hw : Region.wanted o (yielded ops a.tmps) = true := by simp [Region.wanted, hg]
  rw [if_pos hw]
  obtain ⟨ao', cap', g', w', hrun, r1, r2, r3⟩ := run_app (ty := o.type) hE ho hsrc h63 hb
  refine ⟨fun f _ => hF f, ?_⟩
  rw [Oper.semAt_eq _ _ _ (fun c h => by rw [hop] at h; cases h)]
  simp [execOp, hop, resolve, invoke, builtin, hs, hx, hrun, Result.andThen]
  exact hK ao' cap' g' w' r1 r2 r3
end Go.Proofs.Ytlgnpogmgpgdaaa
