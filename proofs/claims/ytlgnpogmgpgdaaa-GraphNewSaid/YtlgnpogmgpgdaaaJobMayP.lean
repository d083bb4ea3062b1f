/- What a job's May needs beside its walk: the range over a map of numbers, a row that is sorted and struck of its twins. -/
import Derived.Test.YtlgnpogmgpgdaaaJobNums
import Derived.Test.YtlgnpogmgpgdaaaSort8
import Derived.Lib.LazyBuf
namespace Go.Proofs.Ytlgnpogmgpgdaaa
set_option linter.unusedSimpArgs false
set_option linter.unusedVariables false
set_option maxRecDepth 100000
open Go.RowKit

theorem numCs_at (jb jo : Nat) : ∀ (xs : List (Nat × Nat × Nat)) (k : Nat) (h : k < xs.length), (numCs jb jo xs)[k * 3]? = some (.pointer (some ⟨jb, jo + xs[k].1, none⟩)) ∧ (numCs jb jo xs)[k * 3 + 1]? = some (.int .u64 (xs[k].2.1 : Nat)) ∧ (numCs jb jo xs)[k * 3 + 2]? = some (.int .u64 (xs[k].2.2 : Nat))
  | x :: xs, 0, _ => ⟨rfl, rfl, rfl⟩
  | x :: xs, k + 1, h => by
    have ih := numCs_at jb jo xs k (by simpa using h)
    have e : numCs jb jo (x :: xs) = .pointer (some ⟨jb, jo + x.1, none⟩) :: .int .u64 (x.2.1 : Nat) :: .int .u64 (x.2.2 : Nat) :: numCs jb jo xs := rfl
    rw [e, show (k + 1) * 3 = k * 3 + 1 + 1 + 1 by omega]
    simpa using ih
theorem numTab_len : ∀ e ∈ numTab, e.2.length ≤ 2 := by decide
theorem numTab_small : ∀ e ∈ numTab, ∀ x ∈ e.2, x.1 < 15 ∧ x.1 ≠ 0 ∧ x.1 ≠ 1 ∧ x.1 ≠ 4 ∧ x.2.1 < 4294967296 ∧ x.2.2 < 4294967296 := by decide
theorem numTab_word : ∀ e ∈ numTab, ∀ e' ∈ numTab, e.1 = e'.1 → e = e' := by decide
theorem jobC_cell (j : JobD) (ao : Option Addr) (cap c : Nat) (h : c < 15) (h0 : c ≠ 0) (h1 : c ≠ 1) (h4 : c ≠ 4) : (jobCs j ao cap)[c]? = some (.int .u32 (jobC j c : Nat)) := by
  rcases c with _ | _ | _ | _ | _ | _ | _ | _ | _ | _ | _ | _ | _ | _ | _ | c <;> first | omega | rfl
theorem jobC_lt {j : JobD} (h : JobOk j) (c : Nat) : jobC j c < 4294967296 := by
  unfold jobC
  split <;> first | exact h.length | exact h.walks | exact h.stop | exact h.od | exact h.p | exact h.q | exact h.tries | exact h.best | exact h.bsh | exact h.bro | exact h.bpo | exact h.bso | omega
/-- an entry whose numbers are all in their bounds -/
def EntOk (j : JobD) (x : MapEntry) : Prop := ∃ e ∈ numTab, x.key = .string (bs e.1) ∧ e.2.all (fun x => inB (jobC j x.1) x.2.1 x.2.2) = true
theorem allNums_yes {j : JobD} {T : TypeId} {jb jo : Nat} {w : World} {mb : Nat} {es : List MapEntry} (h : NumsAt T jb jo w mb es) (ho : ∀ x ∈ es, EntOk j x) : allNums j = true := by
  refine List.all_eq_true.2 fun e he => ?_
  obtain ⟨x, hx, hk⟩ := h.all e he
  obtain ⟨e', he', hk', ha⟩ := ho x hx
  rw [hk] at hk'
  injection hk' with hk'
  have := numTab_word e he e' he' (bs_inj hk')
  subst this
  exact ha
theorem allNums_no {j : JobD} {e : List UInt8 × List (Nat × Nat × Nat)} (he : e ∈ numTab) {x : Nat × Nat × Nat} (hx : x ∈ e.2) (h : inB (jobC j x.1) x.2.1 x.2.2 = false) : allNums j = false := by
  cases ha : allNums j with
  | false => rfl
  | true =>
    have := List.all_eq_true.1 (List.all_eq_true.1 ha e he) x hx
    rw [h] at this; cases this

/-! ### a row sorted and struck of its twins -/
theorem keptN_lt (G : Nat → Nat) : ∀ r, (keptN G r).length = r → ∀ i, 1 ≤ i → i < r → G i ≠ G (i - 1)
  | 0, _, i, _, h => by omega
  | r + 1, h, i, h1, h2 => by
    have hl := keptN_le G r
    rw [keptN, List.length_append] at h
    split at h
    · rename_i hc
      rw [List.length_singleton] at h
      rcases Nat.lt_or_ge i r with h3 | h3
      · exact keptN_lt G r (by omega) i h1 h3
      · obtain rfl : i = r := by omega
        rcases hc with hc | hc
        · omega
        · exact hc
    · simp at h; omega
theorem nodup_kept {l : List Nat} {d : Array Nat} (hp : Sort.PermIn 0 l.length l.toArray d) (hs : Srt 0 l.length d) : (keptN (fun t => d[t]!) l.length).length = l.length ↔ l.Nodup := by
  obtain ⟨p1, _, p3⟩ := hp
  simp only [List.size_toArray] at p1
  have hperm : d.toList.Perm l := by
    have e1 : d.extract 0 l.length = d := by rw [← p1]; simp
    have e2 : l.toArray.extract 0 l.length = l.toArray := by
      have : l.toArray.size = l.length := by simp
      rw [← this]; exact Array.extract_size
    rw [e1, e2] at p3
    simpa using p3
  rw [← hperm.nodup_iff]
  have hg : ∀ i, (h : i < d.toList.length) → d[i]! = d.toList[i] := fun i h => by
    rw [getElem!_pos d i (by simpa using h)]; simp
  constructor
  · intro h
    have hne := keptN_lt _ _ h
    have hlt : ∀ i, ∀ j, i < j → j < l.length → d[i]! < d[j]! := by
      intro i j hij hj
      induction j with
      | zero => omega
      | succ j ih =>
        have h1 := hne (j + 1) (by omega) hj
        simp only [Nat.add_sub_cancel] at h1
        have h2 := hs j (j + 1) (Nat.zero_le _) (by omega) hj
        rcases Nat.lt_or_ge i j with h3 | h3
        · have := ih h3 (by omega); omega
        · obtain rfl : i = j := by omega
          omega
    refine List.pairwise_iff_getElem.2 fun i j hi hj hij => ?_
    have := hlt i j hij (by simpa [p1] using hj)
    rw [hg i hi, hg j hj] at this
    omega
  · intro h
    rw [keptN_all]
    · simp
    · intro i h1 h2 e
      have hi : i < d.toList.length := by simpa [p1] using h2
      have := List.pairwise_iff_getElem.1 h (i - 1) i (by omega) hi (by omega)
      apply this
      rw [← hg i hi, ← hg (i - 1) (by omega)]
      exact e.symm
def u32s (l : List Nat) : List Value := l.map fun x => .int .u32 (x : Nat)
theorem u32s_one (l : List Nat) : ∀ u ∈ u32s l, u.oneCell' = true := by
  intro u hu
  obtain ⟨x, _, rfl⟩ := List.mem_map.1 hu
  rfl
theorem own_holds {w : World} {b cap : Nat} {g : Option Nat} {e : TypeId} {l : List Nat} (h : Own w (some ⟨b, 0, none⟩) cap g e 1 l.length (u32s l)) : Sort.Holds e32 w b 0 l.toArray := fun i hi => by
  have hi' : i < l.length := by simpa using hi
  refine ⟨?_, by rw [Nat.zero_add]; exact h.frozen i⟩
  rw [Nat.zero_add, h.cell i (by omega)]
  simp only [u32s, List.getElem?_map, List.getElem?_eq_getElem hi', Option.map_some]
  rw [getElem!_pos l.toArray i hi]
  rfl
theorem u32sElem : Elem Try.prog 24 23 1 4 (.int .u32 0) := Elem.mk' Try.underlying24 (by kernel_rfl) rfl (by decide)
theorem app_blocks {w W W' : World} {g g' : Option Nat} (hg : ∀ k, g = some k → w.heap.size ≤ k) (hB : Below w.heap.size w W) (hg' : g' = g ∨ g' = some W.heap.size) (hon : Only (fun k => g = some k) W W') : (∀ k, g' = some k → w.heap.size ≤ k) ∧ Below w.heap.size w W' := by
  refine ⟨fun k h => ?_, hB.trans (hon.below hB.size (fun k hk e => by have := hg k e; omega))⟩
  rcases hg' with rfl | rfl
  · exact hg k h
  · cases h; exact hB.size
set_option maxHeartbeats 1600000 in
theorem clone32_any (l : List Nat) (ao : Option Addr) (cap : Nat) (w : World) (h0 : 0 < l.length) (hl : l.length ≤ 1073741824) (hrd : Rd w ao l.length (u32s l)) :
    Calls Try.prog 110 #[.slice ao l.length cap] w (RetOwn 23 1 l.length (u32s l) w) := by
  have hE := u32sElem
  have hsrc : Src Try.prog 1 24 (.slice ao l.length cap) l.length (u32s l) (w.alloc (.cells #[] 23)) := (hrd.ext (ext_alloc w _)).src Try.underlying24 cap (u32s_one l)
  obtain ⟨b, off, rfl, hb, hc⟩ := hrd.pos h0
  have hnil : (binOp .eql 24 (.slice (some ⟨b, off, none⟩) l.length cap) (.slice none 0 0)).run Try.prog w = .ok (.bool false) w := Go.run_eql_slice_nil w _ _ _ _ _ Try.underlying24
  have Hsrc := Lib.hid hsrc
  clear hsrc hc hrd
  go_enter Try.func110, Try.ntmps110
  go_wp2_with (at_builtin; refine wpList_app rfl (.tmp 5) (.tmp 6) 24 24 rfl hE (Own.emptyAt w 23 1 w.heap.size rfl) rfl rfl Hsrc.out (by simp [maxLen]; omega) (by omega) ?_; intro ao4 cap4 g4 W4 ho4 hg4 hon4; obtain ⟨hG, hBB⟩ := app_blocks (w := w) (W := w.alloc (.cells #[] 23)) (fun k h => by cases h; exact Nat.le_refl _) (ext_alloc w _) hg4 hon4; have Ho4 := Lib.hid ho4; clear ho4 hg4 hon4)
  go_ret
  exact ⟨ao4, cap4, g4, by simp, by simpa using Ho4.out, hG, hBB⟩

/-! ### a range over a map, operation by operation -/
section
variable {P : Program} {ops : Array Oper} {rest : List Oper} {o : Oper} {a : Act} {Q : Exit → Act → World → Prop} {w : World}
theorem wpList_range_is (hg : o.guard = none) (m : Operand) (t : TypeId) (hop : o.op = Op.range t m) {k e : TypeId} (ht : P.underlying t = some (.map k e)) {b clk : Nat} {es : List MapEntry} (hm : a.eval m = .map (some b)) (h : MapIs w b es clk)
    (hK : wpList P ops Q rest (a.put o.dst (.pointer (some ⟨w.heap.size, 0, none⟩))) (w.alloc (.mapIter (some b) clk #[] clk))) : wpList P ops Q (o :: rest) a w := by
  refine wpList_plain hg fun K' hK' => ?_
  have hrun := run_range_is (P := P) ht h
  unfold Oper.wp
  simp [execOp, hop, hm, hrun, Result.andThen]
  exact hK' _ _ hK
theorem wpList_next_is (hg : o.guard = none) (it : Operand) (hop : o.op = Op.next it false) {r b clk : Nat} {seen : Array Nat} {es : List MapEntry} (hit : a.eval it = .pointer (some ⟨r, 0, none⟩)) (hr : IterIs w r b clk seen) (hb : MapIs w b es clk) (hold : ∀ x ∈ es, x.born < clk)
    (hDone : (leftOf es.toArray seen).size = 0 → wpList P ops Q rest (a.put o.dst (.tuple #[.bool false])) w)
    (hMore : ∀ (e : MapEntry) (w' : World), e ∈ (leftOf es.toArray seen).toList → IterIs w' r b clk (seen.push e.born) → Only (fun k => k = r) w w' → w'.heap.size = w.heap.size → wpList P ops Q rest (a.put o.dst (.tuple #[.bool true, e.key, e.val])) w') : wpList P ops Q (o :: rest) a w := by
  refine wpList_plain hg fun K' hK' => ?_
  unfold Oper.wp
  rcases run_next_is (P := P) hr hb hold o.type with ⟨h0, hrun⟩ | ⟨e, he, w', hrun, r1, r2, r3⟩
  · simp [execOp, hop, hit, hrun, Result.andThen]
    exact hK' _ _ (hDone h0)
  · simp [execOp, hop, hit, hrun, Result.andThen]
    exact hK' _ _ (hMore e w' he r1 r2 r3)
theorem wpList_entry_is (hg : o.guard = none) (it : Operand) (hop : o.op = Op.entry it) {r b clk : Nat} {seen : Array Nat} {es : List MapEntry} {e : MapEntry} (hit : a.eval it = .pointer (some ⟨r, 0, none⟩)) (hr : IterIs w r b clk (seen.push e.born)) (hb : MapIs w b es clk) (he : e ∈ es) (hn : (es.map (·.born)).Nodup)
    (hK : wpList P ops Q rest (a.put o.dst (.tuple #[e.key, e.val])) w) : wpList P ops Q (o :: rest) a w := by
  refine wpList_plain hg fun K' hK' => ?_
  have hrun := run_entry_is (P := P) hr hb he hn
  unfold Oper.wp
  simp [execOp, hop, hit, hrun, Result.andThen]
  exact hK' _ _ hK
end
end Go.Proofs.Ytlgnpogmgpgdaaa
