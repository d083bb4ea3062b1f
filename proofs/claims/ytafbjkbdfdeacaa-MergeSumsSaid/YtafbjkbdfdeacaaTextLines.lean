/- The iterator behind text.Lines. -/
import Derived.Test.YtafbjkbdfdeacaaTextRefL
import Derived.Scope
namespace Go.Proofs.Ytafbjkbdfdeacaa
set_option linter.unusedSimpArgs false
set_option linter.unusedVariables false
open Go.RowKit

def numFrom : Nat → List (List UInt8) → List (Nat × List UInt8)
  | _, [] => []
  | n, x :: r => (n, x) :: numFrom (n + 1) r
theorem numFrom_length : ∀ (n : Nat) (l : List (List UInt8)), (numFrom n l).length = l.length
  | _, [] => rfl
  | n, x :: r => by simp [numFrom, numFrom_length (n + 1) r]
theorem numFrom_get : ∀ (n : Nat) (l : List (List UInt8)) (i : Nat), (numFrom n l)[i]? = (l[i]?).map fun x => (n + i, x)
  | n, [], i => by simp [numFrom]
  | n, x :: r, 0 => by simp [numFrom]
  | n, x :: r, i + 1 => by rw [numFrom, List.getElem?_cons_succ, List.getElem?_cons_succ, numFrom_get (n + 1) r i]; congr 1; funext y; congr 1; omega

def lineEnc (x : Nat × List UInt8) : Array Value := #[.int .i64 x.1, .string (bs x.2)]
/-- what the iterator reads: its box, the bytes' block -/
def lineRs (b : Nat) (ao : Option Addr) (n : Nat) (k : Nat) : Prop := k = b ∨ (0 < n ∧ ∃ off, ao = some ⟨k, off, none⟩)

def linesRel (l : List UInt8) (J : List (Nat × List UInt8) → (Nat → Prop) → World → Prop) (fp : Nat → Prop) (W : World) (from_ n : Value) (wr : World) : Prop :=
  ∃ (pre : List (Nat × List UInt8)) (fp1 : Nat → Prop) (k m : Nat), from_ = .int .i64 k ∧ n = .int .i64 m ∧ k ≤ l.length ∧ m ≤ k ∧ numFrom 1 (lines l) = pre ++ numFrom (m + 1) (lines (l.drop k)) ∧ J pre fp1 wr ∧
    Fwd (fun k => fp k ∨ False) fp1 W wr ∧ (∀ k, fp1 k → fp k ∨ W.heap.size ≤ k)

def lineIn (l : List UInt8) (k : Nat) (w : World) (i : Value) (wr : World) : Prop :=
  ∃ j : Nat, i = .int .i64 j ∧ k + j ≤ l.length ∧ (∀ d ∈ (l.drop k).take j, (d == 10) = false) ∧ wr = w
/-- '[]byte' from a place on, as a text -/
theorem conv_at {w : World} {bb o n : Nat} {l : List UInt8} (h : ∀ j, j < l.length → w.cell? ⟨bb, o + j, none⟩ = (byteVals l)[j]?) (hn : l.length = n) (cap : Nat) :
    (convert 25 9 (.slice (some ⟨bb, o, none⟩) n cap)).run Try.prog w = .ok (.string (bs l)) w := by
  subst hn
  exact run_string_of Try.underlying25 Try.underlying5 Try.underlying9 (.inr ⟨bb, o, rfl, fun j u hu => by rw [h j (by have := (List.getElem?_eq_some_iff.1 hu).1; simpa [byteVals] using this), hu]⟩)

theorem Rd.only {w w' : World} {ao : Option Addr} {n : Nat} {xs : List Value} {fp : Nat → Prop} (h : Rd w ao n xs) (ho : Only fp w w') (hn : 0 < n → ∀ k off, ao = some ⟨k, off, none⟩ → ¬ fp k) : Rd w' ao n xs := by
  refine ⟨h.1, ?_⟩
  rcases Nat.eq_zero_or_pos n with h0 | h0
  · exact .inl h0
  · obtain ⟨b, off, h1, h2, h3⟩ := h.pos h0
    exact .inr ⟨b, off, h1, Nat.lt_of_lt_of_le h2 ho.size, fun j hj => (ho.cell h2 (hn h0 b off h1) (off + j)).trans (h3 j hj)⟩

attribute [local go_sem] Oper.semAt_some

set_option maxRecDepth 100000 in
set_option maxHeartbeats 1600000 in
theorem lines_iter (b : Nat) (l : List UInt8) (ao : Option Addr) (cap : Nat) (hl : l.length ≤ 1073741824) (hcap : l.length ≤ cap) (hcm : cap ≤ maxLen) :
    IterR Try.prog 65 #[.pointer (some ⟨b, 0, none⟩)] lineEnc (fun pre => pre <+: numFrom 1 (lines l)) (fun xs => xs = numFrom 1 (lines l)) (fun _ => True) (fun _ _ _ => True)
      (fun W => W.cell? ⟨b, 0, none⟩ = some (.slice ao l.length cap) ∧ Rd W ao l.length (byteVals l)) (lineRs b ao l.length) (fun _ => False) := by
  rintro ly J Jx fp W ⟨hc, hrd⟩ hfp hJ hJx _ hY h0
  have hb : b < W.heap.size := World.block_lt_of_cell? W _ hc
  have HJ := Lib.hid hJ
  have HJx := Lib.hid hJx
  have HY := Lib.hid hY
  have H0 : Hid (linesRel l J fp W (.int .i64 0) (.int .i64 0) W) := ⟨[], fp, 0, 0, rfl, rfl, by omega, by omega, by simp, h0, (Fwd.refl (fun k hk => (hfp k hk).1)).wider (fun k hk => .inl hk), fun k hk => .inl hk⟩
  have Hfp := Lib.hid hfp
  have Hc := Lib.hid hc
  have Hrd := Lib.hid hrd
  clear hJ hJx hY h0 hfp hc hrd
  refine callsIn_of_wp Try.func65 rfl trivial ?_
  simp only [Try.ntmps65, List.size_toArray, List.length_cons, List.length_nil, Nat.reduceAdd, Nat.reduceSub, Array.replicate_succ, Array.replicate_zero, List.push_toArray, List.append_toArray, List.nil_append, List.cons_append]
  refine wpIn_wide.2 (wp_scope_straight ((wpIn_wide (n := 0)).1 ?_))
  gi_wp2_with fail
  refine wpIn_label ?_
  gi_wp2_with fail
  gi_loopw [3, 4, 5, 6] (fun f n _ _ wr => linesRel l J fp W f n wr) (fun f _ _ _ _ => l.length - (intOf f).toNat)
  case atStart => exact H0.out
  case round =>
    obtain ⟨pre, fp1, k, m, rfl, rfl, hk, hmk, hw, hj, hfw, hfo⟩ := hrel
    have hc : wr.cell? ⟨b, 0, none⟩ = some (.slice ao l.length cap) := (hfw.only.cell hb (fun h => h.elim (fun h => (Hfp.out b h).2 (.inl rfl)) id) 0).trans Hc.out
    have hrd := Hrd.out.only hfw.only (fun h0 k off e h => h.elim (fun h => (Hfp.out k h).2 (.inr ⟨h0, off, e⟩)) id)
    have Hw := Lib.hid hw
    have Hj := Lib.hid hj
    have Hfw := Lib.hid hfw
    have Hfo := Lib.hid hfo
    clear hw hj hfw hfo
    by_cases hlt : k < l.length
    · obtain ⟨bb, off, rfl, hbb, hcells⟩ := hrd.pos (by omega)
      have hcapk : ¬ cap = k := by omega
      have hk1 : (k : Int) ≤ l.length := by omega
      have hk2 : (l.length : Int) ≤ cap := by omega
      clear hrd
      have Hcells := Lib.hid hcells
      clear hcells
      gi_wp2_with fail
      gi_loopw [3, 5, 6, 17] (fun f _ _ i wr' => f = .int .i64 k ∧ lineIn l k wr i wr') (fun _ _ _ i _ => l.length - k - (intOf i).toNat)
      case atStart => exact ⟨rfl, 0, rfl, by omega, fun d hd => by simp at hd, rfl⟩
      case round =>
        obtain ⟨rfl, j, rfl, hj, hno, rfl⟩ := hrel
        have Hno := Lib.hid hno
        clear hno
        by_cases hjl : k + j < l.length
        · have hcell := Hcells.out (k + j) hjl
          simp only [byteVals, List.getElem?_map, List.getElem?_eq_getElem hjl, Option.map_some] at hcell
          rw [← Nat.add_assoc] at hcell
          have hdr : l.drop k = (l.drop k).take j ++ l[k + j] :: l.drop (k + j + 1) := by
            have h1 : j < (l.drop k).length := by simp; omega
            have h2 := List.drop_eq_getElem_cons h1
            have h3 : (l.drop k).drop (j + 1) = l.drop (k + j + 1) := by rw [List.drop_drop]; congr 1
            rw [List.getElem_drop, h3] at h2
            rw [← h2, List.take_append_drop]
          have htk : (l.drop k).take (j + 1) = (l.drop k).take j ++ [l[k + j]] := by
            have h1 : j < (l.drop k).length := by simp; omega
            rw [take_next _ j h1, List.getElem_drop]
          have hir : (j : Int) < ((l.length - k : Nat) : Int) := by omega
          generalize l[k + j] = c at hcell hdr htk
          have n10 := neB c 10 10 rfl
          cases hsp : c == 10 with
          | false =>
            rw [hsp] at n10
            simp only [Bool.not_false] at n10
            have Htk := Lib.hid htk
            have Hsp := Lib.hid hsp
            clear hdr htk hsp
            gi_wp2_with fail
            go_roundw
            case rel =>
              refine ⟨rfl, j + 1, by go_num, by omega, fun d hd => ?_, rfl⟩
              rw [Htk.out, List.mem_append] at hd
              rcases hd with hd | hd
              · exact Hno.out d hd
              · rw [List.mem_singleton.1 hd]; exact Hsp.out
            case measure => simp [intOf]; omega
          | true =>
            rw [hsp] at n10
            simp only [Bool.not_true] at n10
            have hc10 : c = 10 := by simpa using hsp
            subst hc10
            obtain ⟨p, hp⟩ : ∃ p, (l.drop k).take j = p := ⟨_, rfl⟩
            have hpl : p.length = j := by rw [← hp]; simp; omega
            have hcv := conv_at (bb := bb) (o := off + k) (n := j) (l := p) (w := wr) (fun i hi => by
              have h1 := Hcells.out (k + i) (by omega)
              rw [← Nat.add_assoc] at h1
              rw [h1, ← hp]
              simp only [byteVals, List.map_take, List.map_drop, List.getElem?_take, List.getElem?_drop]
              rw [if_pos (by omega)]) hpl (cap - k)
            have hw2 : numFrom 1 (lines l) = (pre ++ [(m + 1, p)]) ++ numFrom (m + 1 + 1) (lines (l.drop (k + j + 1))) := by
              rw [Hw.out, hdr, hp, lines_cut p _ (by rw [← hp]; exact Hno.out), numFrom]; simp
            obtain ⟨fn, tmps, assign, body, hy, hR⟩ := HY.out pre fp1 (m + 1, p) wr Hj.out (fun k hk => (Hfw.out.own k hk).2) Hfw.out.only (by rw [hw2]; exact List.prefix_append _ _) trivial
            simp only [lineEnc] at hy
            rw [show ((m + 1 : Nat) : Int) = (m : Int) + 1 from rfl] at hy
            have HR := Lib.hid hR
            have Hw2 := Lib.hid hw2
            clear hR hw2 hdr htk hp hsp
            gi_wp2_with fail
            refine HR.out.mono ?_
            clear hy HR
            rintro e W2 ⟨fp2, hfw2, (⟨rfl, hj2⟩ | ⟨rfl, hjx2⟩)⟩
            · have Hj2 := Lib.hid hj2
              have Hfw2 := Lib.hid hfw2
              clear hj2 hfw2
              gi_wp2_with fail
              go_roundw
              case rel =>
                exact ⟨pre ++ [(m + 1, p)], fp2, k + j + 1, m + 1, by go_num, by go_num, by omega, by omega, Hw2.out, Hj2.out, Hfw.out.trans Hfw2.out,
                  fun k hk => ((Hfw2.out.own k hk).1).elim (Hfo.out k) (fun h => .inr (Nat.le_trans Hfw.out.only.size h))⟩
              case measure => simp [intOf]; omega
            · have Hjx2 := Lib.hid hjx2
              have Hfw2 := Lib.hid hfw2
              clear hjx2 hfw2
              gi_wp2_with fail
              rw [Exit.noGoto_ret]
              refine bodyPost_ret (results_none rfl _ _ _) rfl ?_
              exact ⟨⟨_, rfl⟩, pre ++ [(m + 1, p)], fp2, Hfw.out.trans Hfw2.out, (fun k hk => ((Hfw2.out.own k hk).1).elim (Hfo.out k) (fun h => .inr (Nat.le_trans Hfw.out.only.size h))), .inr ⟨by rw [Hw2.out]; exact List.prefix_append _ _, Hjx2.out⟩⟩
        · obtain ⟨p, hp⟩ : ∃ p, l.drop k = p := ⟨_, rfl⟩
          have hpl : p.length = l.length - k := by rw [← hp]; simp
          have hjk : j = l.length - k := by omega
          have hcv := conv_at (bb := bb) (o := off + k) (n := l.length - k) (l := p) (w := wr) (fun i hi => by
            have h1 := Hcells.out (k + i) (by omega)
            rw [← Nat.add_assoc] at h1
            rw [h1, ← hp]
            simp only [byteVals, List.map_drop, List.getElem?_drop]) hpl (cap - k)
          have hno2 : ∀ d ∈ p, (d == 10) = false := by
            have h := Hno.out
            rw [hp, List.take_of_length_le (by omega)] at h
            exact h
          have hpn : p ≠ [] := by intro e; rw [e] at hpl; simp at hpl; omega
          have hw2 : numFrom 1 (lines l) = pre ++ [(m + 1, p)] := by
            rw [Hw.out, hp, lines_last p hno2, if_neg hpn]; rfl
          obtain ⟨fn, tmps, assign, body, hy, hR⟩ := HY.out pre fp1 (m + 1, p) wr Hj.out (fun k hk => (Hfw.out.own k hk).2) Hfw.out.only (by rw [hw2]; exact List.prefix_refl _) trivial
          simp only [lineEnc] at hy
          rw [show ((m + 1 : Nat) : Int) = (m : Int) + 1 from rfl] at hy
          have HR := Lib.hid hR
          have Hw2 := Lib.hid hw2
          have hir : ¬ (j : Int) < ((l.length - k : Nat) : Int) := by omega
          clear hR hw2 hno2 hp hpl
          gi_wp2_with fail
          refine HR.out.mono ?_
          clear hy HR
          rintro e W2 ⟨fp2, hfw2, (⟨rfl, hj2⟩ | ⟨rfl, hjx2⟩)⟩
          · have Hj2 := Lib.hid hj2
            have Hfw2 := Lib.hid hfw2
            clear hj2 hfw2
            gi_wp2_with fail
            rw [Exit.noGoto_normal]
            go_end0
            exact ⟨⟨_, rfl⟩, pre ++ [(m + 1, p)], fp2, Hfw.out.trans Hfw2.out, (fun k hk => ((Hfw2.out.own k hk).1).elim (Hfo.out k) (fun h => .inr (Nat.le_trans Hfw.out.only.size h))), .inl ⟨Hw2.out.symm, Hj2.out⟩⟩
          · have Hjx2 := Lib.hid hjx2
            have Hfw2 := Lib.hid hfw2
            clear hjx2 hfw2
            gi_wp2_with fail
            rw [Exit.noGoto_normal]
            go_end0
            exact ⟨⟨_, rfl⟩, pre ++ [(m + 1, p)], fp2, Hfw.out.trans Hfw2.out, (fun k hk => ((Hfw2.out.own k hk).1).elim (Hfo.out k) (fun h => .inr (Nat.le_trans Hfw.out.only.size h))), .inr ⟨by rw [Hw2.out]; exact List.prefix_refl _, Hjx2.out⟩⟩
    · obtain rfl : k = l.length := by omega
      gi_wp2_with fail
      rw [Exit.noGoto_normal]
      go_end0
      exact ⟨⟨_, rfl⟩, pre, fp1, Hfw.out, Hfo.out, .inl ⟨by rw [Hw.out, List.drop_length]; simp [lines, linesGo, numFrom], Hj.out⟩⟩

set_option maxHeartbeats 400000 in
theorem lines_any (ao : Option Addr) (n cap : Nat) (w : World) :
    Calls Try.prog 55 #[.slice ao n cap] w fun e w' => e = .returned (.func (.func 65) #[] #[.pointer (some ⟨w.heap.size, 0, none⟩)]) ∧ w' = w.alloc (.cells #[.slice ao n cap] 25) := by
  have hmf : ∀ (fn : Fn) (first cap : Array Value) (w : World), (Instr.makeFunc fn first cap).run Try.prog w = .ok (.func fn first cap) w := fun _ _ _ _ => rfl
  go_enter Try.func55, Try.ntmps55
  go_wp2
  go_ret
  exact ⟨rfl, rfl⟩
end Go.Proofs.Ytafbjkbdfdeacaa
