/- text.Words. -/
import Derived.Test.YtafbjkbdfdeacaaTextEach
namespace Go.Proofs.Ytafbjkbdfdeacaa
set_option linter.unusedSimpArgs false
set_option linter.unusedVariables false
open Go.RowKit

theorem wordsGo_len : ∀ (l w : List UInt8), (wordsGo w l).length ≤ l.length + 1 ∧ (w = [] → (wordsGo w l).length ≤ l.length)
  | [], w => by unfold wordsGo; split <;> simp_all
  | c :: l, w => by
    unfold wordsGo
    have h1 := wordsGo_len l []
    have h2 := wordsGo_len l (w ++ [c])
    simp only [List.length_cons]
    refine ⟨?_, fun h => ?_⟩
    · split
      · split
        · omega
        · simp only [List.length_cons]; have := h1.2 rfl; omega
      · omega
    · subst h
      split
      · simp; have := h1.2 rfl; omega
      · omega
theorem words_len (l : List UInt8) : (words l).length ≤ l.length := (wordsGo_len l []).2 rfl

theorem strsElem : Elem Try.prog 73 9 1 16 (.string ⟨#[]⟩) := Elem.mk' Try.underlying73 (by kernel_rfl) rfl (by decide)

set_option maxHeartbeats 400000 in
theorem each_any (s : ByteArray) (w : World) :
    Calls Try.prog 61 #[.string s] w fun e w' => e = .returned (.func (.func 67) #[] #[.pointer (some ⟨w.heap.size, 0, none⟩)]) ∧ w' = w.alloc (.cells #[.string s] 9) := by
  have hmf : ∀ (fn : Fn) (first cap : Array Value) (w : World), (Instr.makeFunc fn first cap).run Try.prog w = .ok (.func fn first cap) w := fun _ _ _ _ => rfl
  go_enter Try.func61, Try.ntmps61
  go_wp2
  go_ret
  exact ⟨rfl, rfl⟩

attribute [local go_sem] Oper.semAt_some
/-- what holds between two rounds of a loop that collects into a variable's slice -/
def Coll (b : Nat) (e : TypeId) (size n : Nat) (xs : List Value) (fp : Nat → Prop) (W : World) : Prop :=
  ∃ ao cap g, W.cell? ⟨b, 0, none⟩ = some (.slice ao n cap) ∧ W.frozen? ⟨b, 0, none⟩ = false ∧ Own W ao cap g e size n xs ∧ g ≠ some b ∧ ∀ k, fp k ↔ (k = b ∨ g = some k)
theorem Coll.stays {b : Nat} {e : TypeId} {size n : Nat} {xs : List Value} {fp : Nat → Prop} {A B : World} (h : Coll b e size n xs fp A) (hs : Stays fp A B) : Coll b e size n xs fp B := by
  obtain ⟨ao, cap, g, hc, hf, ho, hg, hk⟩ := h
  exact ⟨ao, cap, g, (hs.cell ((hk b).2 (.inl rfl)) 0).trans hc, (hs.frozen ((hk b).2 (.inl rfl)) 0).trans hf, ho.stays hs (fun k h => (hk k).2 (.inr h)), hg, hk⟩
theorem Coll.at' {b : Nat} {g : Option Nat} {W W1 : World} {v : Value} {o : Obj} (hc : W.cell? ⟨b, 0, none⟩ = some v) (hf : W.frozen? ⟨b, 0, none⟩ = false) (hg : g ≠ some b) (hon : Only (fun k => g = some k) (W.alloc o) W1) :
    W1.cell? ⟨b, 0, none⟩ = some v ∧ W1.frozen? ⟨b, 0, none⟩ = false := by
  have hb : b < W.heap.size := World.block_lt_of_cell? W _ hc
  have hbo : b < (W.alloc o).heap.size := by simp; omega
  exact ⟨(hon.cell hbo hg 0).trans ((World.cell?_alloc_lt W o ⟨b, 0, none⟩ hb).trans hc), (hon.frozen hbo hg 0).trans ((World.frozen?_alloc_old W o ⟨b, 0, none⟩ (by simp; omega)).trans hf)⟩
/-- the round's end: the element appended, the variable stored -/
theorem Coll.next {b : Nat} {e : TypeId} {size n m : Nat} {xs news : List Value} {fp : Nat → Prop} {W W1 : World} {ao ao' : Option Addr} {cap cap' : Nat} {g g' : Option Nat} {o : Obj}
    (hc : W.cell? ⟨b, 0, none⟩ = some (.slice ao n cap)) (hf : W.frozen? ⟨b, 0, none⟩ = false) (ho : Own W ao cap g e size n xs) (hg : g ≠ some b) (hk : ∀ k, fp k ↔ (k = b ∨ g = some k))
    (ho' : Own W1 ao' cap' g' e size (n + m) (xs ++ news)) (hg' : g' = g ∨ g' = some (W.alloc o).heap.size) (hon : Only (fun k => g = some k) (W.alloc o) W1) :
    Coll b e size (n + m) (xs ++ news) (fun k => k = b ∨ g' = some k) (W1.setCell ⟨b, 0, none⟩ (.slice ao' (n + m) cap')) ∧
    Fwd fp (fun k => k = b ∨ g' = some k) W (W1.setCell ⟨b, 0, none⟩ (.slice ao' (n + m) cap')) := by
  have hb : b < W.heap.size := World.block_lt_of_cell? W _ hc
  have hbo : b < (W.alloc o).heap.size := by simp; omega
  have hgb : g' ≠ some b := by
    rcases hg' with rfl | rfl
    · exact hg
    · simp; omega
  have hcell : W1.cell? ⟨b, 0, none⟩ = some (.slice ao n cap) := (hon.cell hbo hg 0).trans ((World.cell?_alloc_lt W o ⟨b, 0, none⟩ hb).trans hc)
  have hfz : W1.frozen? ⟨b, 0, none⟩ = false := (hon.frozen hbo hg 0).trans ((World.frozen?_alloc_old W o ⟨b, 0, none⟩ (by simp; omega)).trans hf)
  refine ⟨⟨ao', cap', g', by simp [cell_set_ite, hcell], by simp [hfz], ho'.setCell (fun k h e => hgb (by rw [h]; exact congrArg some e)) _, hgb, fun k => Iff.rfl⟩, ?_, ?_⟩
  · refine ((Only.of_below (fp := fp) (ext_alloc W o)).trans hon (fun i _ h => (hk i).2 (.inr h))).setCell (fun _ => (hk b).2 (.inl rfl)) _
  · rintro k (rfl | h)
    · exact ⟨.inl ((hk _).2 (.inl rfl)), by simp; have := hon.size; simp at this; omega⟩
    · refine ⟨?_, by simpa using ho'.lt k h⟩
      rcases hg' with rfl | rfl
      · exact .inl ((hk k).2 (.inr h))
      · cases h; exact .inr (by simp)

set_option maxRecDepth 100000 in
set_option maxHeartbeats 1600000 in
theorem words_any (l : List UInt8) (hl : l.length ≤ 1073741824) (w : World) :
    Calls Try.prog 50 #[.string (bs l)] w (RetOwn 9 1 (words l).length (strCells (words l)) w) := by
  have hE := strsElem
  have hwl := words_len l
  refine (callsIn_wide (n := 0)).1 (callsIn_of_wp_marks Try.func50 rfl trivial ?_)
  simp only [Try.ntmps50, List.size_toArray, List.length_cons, List.length_nil, Nat.reduceAdd, Nat.reduceSub, Array.replicate_succ, Array.replicate_zero, List.push_toArray, List.append_toArray, List.nil_append, List.cons_append]
  gi_wp2_with (gi_at_call 61; refine (callsIn_wide.2 (each_any _ _)).mono ?_; rintro e w1 ⟨rfl, rfl⟩)
  refine wpIn_world fun w2 hw2 => ?_
  have c0 : w2.cell? ⟨w.heap.size, 0, none⟩ = some (.slice none 0 0) := by rw [hw2]; simp [go_sem, ↓IntWalk.iteOmega]
  have f0 : w2.frozen? ⟨w.heap.size, 0, none⟩ = false := by rw [hw2]; simp [go_sem, ↓IntWalk.iteOmega]
  have c1 : w2.cell? ⟨w.heap.size + 1, 0, none⟩ = some (.string (bs l)) := by rw [hw2]; simp [go_sem, ↓IntWalk.iteOmega]
  have f1 : w2.frozen? ⟨w.heap.size + 1, 0, none⟩ = false := by rw [hw2]; simp [go_sem, ↓IntWalk.iteOmega]
  have hs2 : w2.heap.size = w.heap.size + 2 := by rw [hw2]; simp
  have hB2 : Below w.heap.size w w2 := by rw [hw2]; exact (ext_alloc w _).alloc (by simp) _
  clear hw2
  refine wpIn_range (gf := 67) (lb := #[.pointer (some ⟨w.heap.size + 1, 0, none⟩)]) rfl (enters_of Try.func67 (by kernel_rfl) rfl) (each_iter (w.heap.size + 1) l (by omega)) (fun _ => rfl)
    (fun k => k = w.heap.size ∨ (none : Option Nat) = some k) (fun k hk => by simp at hk; omega) (fun k hk => by omega)
    (fun pre fp W => Coll w.heap.size 9 1 pre.length (strCells pre) fp W) (fun _ _ _ _ => False)
    (fun pre fp A B h hs => h.stays hs) (fun _ _ _ _ _ h _ => h) (fun _ _ _ _ => trivial)
    (fun _ x a' _ => a' = { tmps := #[.string (bs l), undef, .slice none 0 0, .pointer (some ⟨w.heap.size, 0, none⟩), .string (bs x), .string (bs l), .func (.func 67) #[] #[.pointer (some ⟨w.heap.size + 1, 0, none⟩)], .string (bs x), undef, undef, undef, undef, undef], defers := [] })
    (fun _ _ _ _ _ _ _ _ h => h)
    (fun W hb => ⟨(hb.cell (p := ⟨_, 0, none⟩) (by simp; omega)).trans c1, (hb.frozen (p := ⟨_, 0, none⟩) (by simp; omega)).trans f1⟩)
    ⟨none, 0, none, c0, f0, Own.nil _ _ _, by simp, fun k => Iff.rfl⟩ ?assign ?body ?done (fun _ _ _ _ _ _ _ h => h.elim)
  case assign =>
    intro l1 pre fp x W K _ _ _ _ _ hK
    gi_wp2
    exact hK _ _ (Only.refl _ _) rfl
  case body =>
    rintro l1 pre fp x a' W W0 _ _ _ hok _ _ _ _ ⟨ao, cap, g, hc, hf, ho, hg, hk⟩ rfl _
    have hlen : pre.length + 1 ≤ 1073741824 := by
      have := hok.length_le
      simp at this
      omega
    have Hk := Lib.hid hk
    have Hok := Lib.hid hok
    clear hk hok
    gi_wp2_with (gi_at_builtin; refine wpListIn_app rfl _ _ _ _ rfl hE (ho.alloc _) rfl rfl (srcOne Try.underlying73 W _ _ _ rfl) (by simp [maxLen]; omega) (by omega) ?_; intro ao' cap' g' w1 ho' hg' hon; obtain ⟨hcw, hfzw⟩ := Coll.at' hc hf hg hon)
    obtain ⟨r1, r2⟩ := Coll.next hc hf ho hg Hk.out ho' hg' hon
    exact ⟨_, r2, by simpa [strCells] using r1⟩
  case done =>
    rintro D xs fp' W hD rfl ⟨ao, cap, g, hc, hf, ho, hg, hk⟩ honly hfw _ hnD hkD
    dsimp only
    gi_wp2
    have hDg : g ≠ some D := fun h => hnD ((hk D).2 (.inr h))
    refine leaveM1 hkD (results_tmp rfl _ _ _) ⟨ao, cap, g, rfl, ho.keep (fun b hb => World.putObj_heap_other (fun e => hDg (by rw [hb, e]))), ?_, ?_⟩
    · intro k hk2
      rcases hfw k ((hk k).2 (.inr hk2)) with (h | h) | h
      · subst h; exact Nat.le_refl _
      · cases h
      · omega
    · exact ext_put (hB2.trans (honly.below (by omega) (by rintro k hk ((h | h) | h) <;> first | omega | cases h))) (by omega)
end Go.Proofs.Ytafbjkbdfdeacaa
