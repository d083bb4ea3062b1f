/- Texts merged into one: SrcAll, MergeKey, MergeSum, MergeMay. -/
import Derived.Test.YtcklfffeimnfeaaGreatBx00
import Derived.Test.YtcklfffeimnfeaaGreatBx06
import Derived.Laws.MakeOwn
import Derived.Test.YtcklfffeimnfeaaGreatBx09
import Derived.Test.YtcklfffeimnfeaaGreatBx01
import Derived.Lib.Bytealg
import Derived.Laws.Externs
import Derived.Lib.LazyBuf
set_option maxRecDepth 100000
set_option maxHeartbeats 12800000
set_option linter.unusedSimpArgs false
set_option linter.unusedVariables false
namespace Go.Proofs.YtcklfffeimnfeaaGreat
open Go.RowKit

theorem app_blocksM {w W W' : World} {g g' : Option Nat} (hg : ∀ k, g = some k → w.heap.size ≤ k) (hB : Below w.heap.size w W) (hg' : g' = g ∨ g' = some W.heap.size) (hon : Only (fun k => g = some k) W W') : (∀ k, g' = some k → w.heap.size ≤ k) ∧ Below w.heap.size w W' := by
  refine ⟨fun k h => ?_, hB.trans (hon.below hB.size (fun k hk e => by have := hg k e; omega))⟩
  rcases hg' with rfl | rfl
  · exact hg k h
  · cases h; exact hB.size

theorem RdS.css {α : Type} {R : Rep α} {fp : Nat → Prop} {w : World} {b : Nat} : ∀ {l : List α} {off : Nat}, RdS R fp w (some ⟨b, off, none⟩) l →
    ∃ css, All2 (fun x cs => R.ok w fp x cs) l css ∧ ∀ j u, css.flatten[j]? = some u → w.cell? ⟨b, off + j, none⟩ = some u
  | [], off, h => ⟨[], .nil, fun j u hu => by simp at hu⟩
  | x :: l, off, h => by
    obtain ⟨b', off', cs, e, _, _, hx, hc⟩ := h.at 0 (by simp)
    cases e
    obtain ⟨css, h1, h2⟩ := RdS.css (l := l) (by simpa using h.drop 1)
    refine ⟨cs :: css, .cons hx h1, fun j u hu => ?_⟩
    rw [List.flatten_cons] at hu
    by_cases hj : j < R.size
    · rw [List.getElem?_append_left (by rw [R.len hx]; exact hj)] at hu
      rw [← hu, ← hc j hj]; simp
    · rw [List.getElem?_append_right (by rw [R.len hx]; omega), R.len hx] at hu
      have := h2 _ _ hu
      rw [show off + R.size + (j - R.size) = off + j by omega] at this
      exact this
/-- a representation whose cells are plain -/
def OneC {α : Type} (R : Rep α) : Prop := ∀ {w : World} {fp : Nat → Prop} {x : α} {cs : List Value}, R.ok w fp x cs → ∀ u ∈ cs, u.oneCell' = true
theorem OneC.nat (k : IntKind) (b : Nat) : OneC (Rep.nat k b) := fun h u hu => by rw [h.1, List.mem_singleton] at hu; subst hu; rfl
theorem OneC.slice {α : Type} (R : Rep α) : OneC (Rep.slice R) := fun h u hu => by obtain ⟨a, c, rfl, _⟩ := h; rw [List.mem_singleton.1 hu]; rfl
theorem OneC.prod {α β : Type} {R : Rep α} {S : Rep β} (h1 : OneC R) (h2 : OneC S) : OneC (R.prod S) := fun h u hu => by
  obtain ⟨c, d, rfl, h3, h4⟩ := h
  rcases List.mem_append.1 hu with h | h
  · exact h1 h3 u h
  · exact h2 h4 u h
theorem OneC.all {α : Type} {R : Rep α} (ho : OneC R) {fp : Nat → Prop} {w : World} : ∀ {l : List α} {css : List (List Value)}, All2 (fun x cs => R.ok w fp x cs) l css → ∀ u ∈ css.flatten, u.oneCell' = true
  | _, _, .nil => fun u hu => by simp at hu
  | _, _, .cons h1 h2 => fun u hu => by
    rw [List.flatten_cons] at hu
    rcases List.mem_append.1 hu with h | h
    · exact ho h1 u h
    · exact ho.all h2 u h
/-- whatever reads as a slice, as what is appended -/
theorem RdS.srcAll {α : Type} {R : Rep α} (ho : OneC R) {P : Program} {tx e' : TypeId} (hk : P.underlying tx = some (.slice e')) {fp : Nat → Prop} {w : World} {ao : Option Addr} {l : List α} (h : RdS R fp w ao l) :
    ∃ css, All2 (fun x cs => R.ok w fp x cs) l css ∧ ∀ W', Below w.heap.size w W' → ∀ cap, Src P R.size tx (.slice ao l.length cap) l.length css.flatten W' := by
  rcases Nat.eq_zero_or_pos l.length with h0 | h0
  · obtain rfl := List.eq_nil_of_length_eq_zero h0
    refine ⟨[], .nil, fun W' _ cap => ?_⟩
    cases ao with
    | none => exact Src.ofNil _ hk cap
    | some a => exact Src.ofSlice W' hk a 0 cap [] (by simp) (fun j u hu => by simp at hu) (fun u hu => by simp at hu)
  · obtain ⟨b, off, _, rfl, _, hb, _, _⟩ := h.at 0 h0
    obtain ⟨css, h1, h2⟩ := h.css
    refine ⟨css, h1, fun W' hB cap => Src.ofSlice W' hk ⟨b, off, none⟩ l.length cap css.flatten (all2_len h1) (fun j u hu => ?_) (ho.all h1)⟩
    rw [Addr.add_lit]
    exact ((bcell hB).1 b (off + j) hb).trans (h2 j u hu)
theorem all2_mono {α : Type} {R : Rep α} {fp fp' : Nat → Prop} {w w' : World} {l : List α} {css : List (List Value)} (h : All2 (fun x cs => R.ok w fp x cs) l css) (hk : ∀ b, fp b → b < w.heap.size → w'.heap[b]? = w.heap[b]?) (hs : w.heap.size ≤ w'.heap.size) (hm : ∀ b, fp b → fp' b) : All2 (fun x cs => R.ok w' fp' x cs) l css :=
  forall2_imp (fun x cs h => R.mono (R.keep h hk hs) (fun b hb _ => hm b hb)) h
theorem heap_alloc_ite (w : World) (c : Array Value) (t : TypeId) (n : Nat) : (w.alloc (.cells c t)).heap[n]? = if n = w.heap.size then some (.cells c t (0, 0)) else w.heap[n]? := by
  split
  · rename_i h; subst h; exact heap_alloc_new w _
  · rename_i h; unfold World.alloc; simp only [Array.getElem?_push]; rw [if_neg h]
theorem drew_heap (w : World) : w.drew.heap = w.heap := rfl
theorem own_empty {W : World} {b : Nat} {e : TypeId} {size : Nat} (h : W.heap[b]? = some (.cells #[] e (0, 0))) : Own W (some ⟨b, 0, none⟩) 0 (some b) e size 0 [] :=
  ⟨by simp, .inr ⟨b, #[], rfl, rfl, h, Nat.le_refl _, by simp [maxLen], by simp, by simp⟩⟩
theorem srcBlk {P : Program} {tx e' : TypeId} (hk : P.underlying tx = some (.slice e')) {W : World} (cs : List Value) {t : TypeId} {k b : Nat} (size : Nat) (hb : W.heap[b]? = some (.cells cs.toArray t (0, 0))) (hs : cs.length = size) (h1 : ∀ u ∈ cs, u.oneCell' = true) :
    Src P size tx (.slice (some ⟨b, 0, none⟩) 1 k) 1 cs W :=
  Src.ofSlice W hk ⟨b, 0, none⟩ 1 k cs (by omega) (fun j u hu => by
    rw [Addr.add_lit, Nat.zero_add, cell_of_row W b j _ _ _ hb]
    simpa using hu) h1
end Go.Proofs.YtcklfffeimnfeaaGreat

namespace Go.Proofs.YtcklfffeimnfeaaGreat
open Go.RowKit

def keyP (x : EdgeD) : Nat → List UInt8
  | 0 => []
  | 1 => be4 x.1
  | 2 => be4 x.1 ++ be4 x.2.1
  | _ => key3 x.1 x.2.1 x.2.2
theorem keyP_step (x : EdgeD) (k : Nat) (h : k < 3) : keyP x (k + 1) = keyP x k ++ be4 (numE x k) := by
  match k, h with
  | 0, _ => simp [keyP, numE]
  | 1, _ => simp [keyP, numE]
  | 2, _ => simp [keyP, numE, key3]
theorem keyP_len (x : EdgeD) (k : Nat) : (keyP x k).length ≤ 12 := by
  match k with
  | 0 => simp [keyP]
  | 1 => simp [keyP, be4]
  | 2 => simp [keyP, be4]
  | _ + 3 => simp [keyP, key3, be4]
theorem be4_step (v j : Nat) (h : j < 4) : ∃ u : UInt8, (be4 v).take (j + 1) = (be4 v).take j ++ [u] ∧ u.toNat = v / 256 ^ (3 - j) % 256 := by
  match j, h with
  | 0, _ => exact ⟨UInt8.ofNat (v / 16777216), rfl, by simp [u8n]⟩
  | 1, _ => exact ⟨UInt8.ofNat (v / 65536), rfl, by simp [u8n]⟩
  | 2, _ => exact ⟨UInt8.ofNat (v / 256), rfl, by simp [u8n]⟩
  | 3, _ => exact ⟨UInt8.ofNat v, rfl, by simp [u8n]⟩

theorem mkey_any (a b c : Nat) (ha : a < 4294967296) (hb : b < 4294967296) (hc : c < 4294967296) (w : World) :
    Calls Tryz.prog 29 #[.agg #[.int .u32 a, .int .u32 b, .int .u32 c]] w (RetOwn 5 1 12 (byteVals (key3 a b c)) w) := by
  have hE := bytesElem
  have hmk : ∀ u : World, (Instr.makeSlice 68 (.int .i64 0) (.int .i64 12)).run Tryz.prog u = .ok (.slice (some ⟨u.heap.size, 0, none⟩) 0 12) (u.alloc (.cells #[.int .u8 0, .int .u8 0, .int .u8 0, .int .u8 0, .int .u8 0, .int .u8 0, .int .u8 0, .int .u8 0, .int .u8 0, .int .u8 0, .int .u8 0, .int .u8 0] 5)) := fun u => by kernel_rfl
  have hidx : ∀ j : Nat, j < 3 → ∀ u : World, (Instr.index 116 (.agg #[.int .u32 (a : Nat), .int .u32 (b : Nat), .int .u32 (c : Nat)]) (.int .i64 (j : Nat))).run Tryz.prog u = .ok (.int .u32 (numE (a, b, c) j : Nat)) u := fun j hj => by
    match j, hj with
    | 0, _ => exact fun u => by kernel_rfl
    | 1, _ => exact fun u => by kernel_rfl
    | 2, _ => exact fun u => by kernel_rfl
  have hnum : ∀ j, numE (a, b, c) j < 4294967296 := fun j => by unfold numE; split <;> (try split) <;> assumption
  have Hidx := Lib.hid hidx
  have Hnum := Lib.hid hnum
  have Hst := Lib.hid (fun k h => keyP_step (a, b, c) k h)
  have Hkl := Lib.hid (fun k => keyP_len (a, b, c) k)
  clear hidx hnum
  go_enter Tryz.func29, Tryz.ntmps29
  go_wp2_with fail
  have ho0 : Own ((w.alloc (Obj.cells #[Value.int IntKind.u32 a, Value.int IntKind.u32 b, Value.int IntKind.u32 c] 48)).alloc (.cells #[.int .u8 0, .int .u8 0, .int .u8 0, .int .u8 0, .int .u8 0, .int .u8 0, .int .u8 0, .int .u8 0, .int .u8 0, .int .u8 0, .int .u8 0, .int .u8 0] 5)) (some ⟨w.heap.size + 1, 0, none⟩) 12 (some (w.heap.size + 1)) 5 1 0 [] :=
    ⟨rfl, .inr ⟨w.heap.size + 1, _, rfl, rfl, by simpa using heap_alloc_new (w.alloc (Obj.cells #[Value.int IntKind.u32 a, Value.int IntKind.u32 b, Value.int IntKind.u32 c] 48)) _, by omega, by simp [maxLen], rfl, rfl⟩⟩
  have hW : prE w (keyP (a, b, c) 0) (.slice (some ⟨w.heap.size + 1, 0, none⟩) 0 12) ((w.alloc (Obj.cells #[Value.int IntKind.u32 a, Value.int IntKind.u32 b, Value.int IntKind.u32 c] 48)).alloc (.cells #[.int .u8 0, .int .u8 0, .int .u8 0, .int .u8 0, .int .u8 0, .int .u8 0, .int .u8 0, .int .u8 0, .int .u8 0, .int .u8 0, .int .u8 0, .int .u8 0] 5)) :=
    ⟨_, 12, _, rfl, ho0, (fun k h => by cases h; omega), (ext_alloc w _).alloc (by simp) _⟩
  have HW := Lib.hid hW
  clear ho0 hmk hW
  go_loopw [3, 15] (fun o i wr => ∃ k : Nat, k ≤ 3 ∧ i = .int .i64 (k : Nat) ∧ prE w (keyP (a, b, c) k) o wr) (fun _ i _ => 3 - (intOf i).toNat)
  case atStart => exact ⟨0, by omega, rfl, HW.out⟩
  case round =>
    clear HW
    obtain ⟨k, hk, rfl, ao', cap', g, rfl, ho, hg, hB⟩ := hrel
    by_cases hlt : k < 3
    · have hidx := Hidx.out k hlt
      have hvb := Hnum.out k
      have hst := Hst.out k hlt
      have hkl := Hkl.out k
      have hir : (k : Int) < 3 := by omega
      generalize numE (a, b, c) k = v at hidx hvb hst
      generalize hPe : keyP (a, b, c) k = P at hst ho hkl ⊢
      have hW : prE w (P ++ (be4 v).take 0) (.slice ao' P.length cap') wr := ⟨ao', cap', g, by simp, by simpa using ho, hg, hB⟩
      have HW := Lib.hid hW
      have Hst1 := Lib.hid hst
      clear hW hst ho hg hB hPe
      go_wp2_with fail
      go_loopw [3, 18] (fun o i wr2 => ∃ j : Nat, j ≤ 4 ∧ i = .int .i64 (j : Nat) ∧ prE w (P ++ (be4 v).take j) o wr2) (fun _ i _ => 4 - (intOf i).toNat)
      case atStart => exact ⟨0, by omega, rfl, HW.out⟩
      case round =>
        clear HW
        obtain ⟨j, hj, rfl, ao3, cap3, g3, rfl, ho3, hg3, hB3⟩ := hrel
        have Ho3 := Lib.hid ho3
        have Hg3 := Lib.hid hg3
        have HB3 := Lib.hid hB3
        have hs := hB3.size
        clear ho3 hg3 hB3
        by_cases hjl : j < 4
        · have hir2 : (j : Int) < 4 := by omega
          obtain ⟨u, hu1, hu2⟩ := be4_step v j hjl
          obtain ⟨Q, hQ⟩ : ∃ Q, P ++ (be4 v).take j = Q := ⟨_, rfl⟩
          have hQl := congrArg List.length hQ
          simp only [List.length_append, List.length_take] at hQl
          have hQle : Q.length ≤ 100 := by have : (be4 v).length = 4 := rfl; omega
          have Ho4 := Ho3.out
          rw [hQ] at Ho4
          have HO4 := Lib.hid Ho4
          have hT : P ++ (be4 v).take (j + 1) = Q ++ [u] := by rw [hu1, ← hQ]; simp
          have HT := Lib.hid hT
          have Hu := Lib.hid hu2
          rw [hQ]
          clear hT hu1 hu2 hQ hQl Ho3 Ho4
          have hj4 : j = 0 ∨ j = 1 ∨ j = 2 ∨ j = 3 := by omega
          rcases hj4 with h | h | h | h
          · have hsub : (3 : Int) - (j : Int) = 3 := by omega
            have hpow : 256 ^ (3 - j) = 16777216 := by rw [h]
            have Hj := Lib.hid h
            have Hpow := Lib.hid hpow
            clear h hpow
            go_wp2_with (at_builtin; refine wpList_app rfl (.tmp 21) (.tmp 28) 68 68 rfl hE (HO4.out.alloc _) rfl rfl (srcOne Tryz.underlying68 _ _ _ _ rfl) (by simp [maxLen]; omega) (by omega) ?_; intro ao4 cap4 g4 W4 ho4 hg4 hon4; have Ho5 := Lib.hid ho4; have Hg4 := Lib.hid hg4; have Hon4 := Lib.hid hon4; clear ho4 hg4 hon4)
            have ho5 := Ho5.out
            have huv := Hu.out
            rw [Hpow.out] at huv
            obtain ⟨hG, hBB⟩ := app_blocksM Hg3.out (HB3.out.alloc hs _) Hg4.out Hon4.out
            refine ⟨⟨j + 1, by omega, by go_num, ao4, cap4, g4, by rw [HT.out]; simp, ?_, hG, hBB⟩, by simp [intOf]; omega⟩
            rw [HT.out]
            have e : byteVals (Q ++ [u]) = byteVals Q ++ [.int .u8 (u.toNat : Nat)] := by simp [byteVals]
            rw [e, huv, List.length_append]
            have e3 : ((v / 16777216 % 256 : Nat) : Int) = (v : Int) / 16777216 := by omega
            rw [e3]
            exact ho5
          · have hsub : (3 : Int) - (j : Int) = 2 := by omega
            have hpow : 256 ^ (3 - j) = 65536 := by rw [h]
            have Hj := Lib.hid h
            have Hpow := Lib.hid hpow
            clear h hpow
            go_wp2_with (at_builtin; refine wpList_app rfl (.tmp 21) (.tmp 28) 68 68 rfl hE (HO4.out.alloc _) rfl rfl (srcOne Tryz.underlying68 _ _ _ _ rfl) (by simp [maxLen]; omega) (by omega) ?_; intro ao4 cap4 g4 W4 ho4 hg4 hon4; have Ho5 := Lib.hid ho4; have Hg4 := Lib.hid hg4; have Hon4 := Lib.hid hon4; clear ho4 hg4 hon4)
            have ho5 := Ho5.out
            have huv := Hu.out
            rw [Hpow.out] at huv
            obtain ⟨hG, hBB⟩ := app_blocksM Hg3.out (HB3.out.alloc hs _) Hg4.out Hon4.out
            refine ⟨⟨j + 1, by omega, by go_num, ao4, cap4, g4, by rw [HT.out]; simp, ?_, hG, hBB⟩, by simp [intOf]; omega⟩
            rw [HT.out]
            have e : byteVals (Q ++ [u]) = byteVals Q ++ [.int .u8 (u.toNat : Nat)] := by simp [byteVals]
            rw [e, huv, List.length_append]
            have e3 : ((v / 65536 % 256 : Nat) : Int) = (v : Int) / 65536 % 256 := by omega
            rw [e3]
            exact ho5
          · have hsub : (3 : Int) - (j : Int) = 1 := by omega
            have hpow : 256 ^ (3 - j) = 256 := by rw [h]
            have Hj := Lib.hid h
            have Hpow := Lib.hid hpow
            clear h hpow
            go_wp2_with (at_builtin; refine wpList_app rfl (.tmp 21) (.tmp 28) 68 68 rfl hE (HO4.out.alloc _) rfl rfl (srcOne Tryz.underlying68 _ _ _ _ rfl) (by simp [maxLen]; omega) (by omega) ?_; intro ao4 cap4 g4 W4 ho4 hg4 hon4; have Ho5 := Lib.hid ho4; have Hg4 := Lib.hid hg4; have Hon4 := Lib.hid hon4; clear ho4 hg4 hon4)
            have ho5 := Ho5.out
            have huv := Hu.out
            rw [Hpow.out] at huv
            obtain ⟨hG, hBB⟩ := app_blocksM Hg3.out (HB3.out.alloc hs _) Hg4.out Hon4.out
            refine ⟨⟨j + 1, by omega, by go_num, ao4, cap4, g4, by rw [HT.out]; simp, ?_, hG, hBB⟩, by simp [intOf]; omega⟩
            rw [HT.out]
            have e : byteVals (Q ++ [u]) = byteVals Q ++ [.int .u8 (u.toNat : Nat)] := by simp [byteVals]
            rw [e, huv, List.length_append]
            have e3 : ((v / 256 % 256 : Nat) : Int) = (v : Int) / 256 % 256 := by omega
            rw [e3]
            exact ho5
          · have hsub : (3 : Int) - (j : Int) = 0 := by omega
            have hpow : 256 ^ (3 - j) = 1 := by rw [h]
            have Hj := Lib.hid h
            have Hpow := Lib.hid hpow
            clear h hpow
            go_wp2_with (at_builtin; refine wpList_app rfl (.tmp 21) (.tmp 28) 68 68 rfl hE (HO4.out.alloc _) rfl rfl (srcOne Tryz.underlying68 _ _ _ _ rfl) (by simp [maxLen]; omega) (by omega) ?_; intro ao4 cap4 g4 W4 ho4 hg4 hon4; have Ho5 := Lib.hid ho4; have Hg4 := Lib.hid hg4; have Hon4 := Lib.hid hon4; clear ho4 hg4 hon4)
            have ho5 := Ho5.out
            have huv := Hu.out
            rw [Hpow.out] at huv
            obtain ⟨hG, hBB⟩ := app_blocksM Hg3.out (HB3.out.alloc hs _) Hg4.out Hon4.out
            refine ⟨⟨j + 1, by omega, by go_num, ao4, cap4, g4, by rw [HT.out]; simp, ?_, hG, hBB⟩, by simp [intOf]; omega⟩
            rw [HT.out]
            have e : byteVals (Q ++ [u]) = byteVals Q ++ [.int .u8 (u.toNat : Nat)] := by simp [byteVals]
            rw [e, huv, List.length_append]
            have e3 : ((v / 1 % 256 : Nat) : Int) = (v : Int) % 256 := by omega
            rw [e3]
            exact ho5
        · obtain rfl : j = 4 := by omega
          have hT : P ++ (be4 v).take 4 = keyP (a, b, c) (k + 1) := by rw [Hst1.out]; rfl
          have HT := Lib.hid hT
          rw [hT] at Ho3 ⊢
          clear hT
          go_wp2_with fail
          exact ⟨⟨k + 1, by omega, by go_num, ao3, cap3, g3, rfl, Ho3.out, Hg3.out, HB3.out⟩, by simp [intOf]; omega⟩
    · obtain rfl : k = 3 := by omega
      go_wp2_with fail
      go_ret
      exact ⟨ao', cap', g, rfl, ho, hg, hB⟩

theorem mof_yes (l : List UInt8) (ao : Option Addr) (cap : Nat) (w : World) (h12 : l.length = 12) (hrd : Rd w ao l.length (byteVals l)) :
    Calls Tryz.prog 138 #[.slice ao l.length cap] w fun e w' => e = .returned (.tuple #[edgeV (keyOf l), .int .i64 0]) ∧ Below w.heap.size w w' := by
  obtain ⟨b, off, rfl, hb, hc⟩ := hrd.pos (by omega)
  obtain ⟨c0, c1, c2, c3, c4, c5, c6, c7, c8, c9, c10, c11, rfl⟩ := twelve l h12
  have h0 := hc 0 (by simp); have h1 := hc 1 (by simp); have h2 := hc 2 (by simp); have h3 := hc 3 (by simp)
  have h4 := hc 4 (by simp); have h5 := hc 5 (by simp); have h6 := hc 6 (by simp); have h7 := hc 7 (by simp)
  have h8 := hc 8 (by simp); have h9 := hc 9 (by simp); have h10 := hc 10 (by simp); have h11 := hc 11 (by simp)
  simp only [byteVals, List.map_cons, List.map_nil, List.getElem?_cons_zero, List.getElem?_cons_succ, Nat.add_zero] at h0 h1 h2 h3 h4 h5 h6 h7 h8 h9 h10 h11
  clear hc hrd h12
  have k0 := c0.toNat_lt; have k1 := c1.toNat_lt; have k2 := c2.toNat_lt; have k3 := c3.toNat_lt; have k4 := c4.toNat_lt; have k5 := c5.toNat_lt
  have k6 := c6.toNat_lt; have k7 := c7.toNat_lt; have k8 := c8.toNat_lt; have k9 := c9.toNat_lt; have k10 := c10.toNat_lt; have k11 := c11.toNat_lt
  simp only [keyOf, num4, List.take_succ_cons, List.take_zero, List.drop_succ_cons, List.drop_zero, List.foldl_cons, List.foldl_nil, Nat.zero_mul, Nat.zero_add]
  generalize c0.toNat = c0 at *
  generalize c1.toNat = c1 at *
  generalize c2.toNat = c2 at *
  generalize c3.toNat = c3 at *
  generalize c4.toNat = c4 at *
  generalize c5.toNat = c5 at *
  generalize c6.toNat = c6 at *
  generalize c7.toNat = c7 at *
  generalize c8.toNat = c8 at *
  generalize c9.toNat = c9 at *
  generalize c10.toNat = c10 at *
  generalize c11.toNat = c11 at *
  go_enter Tryz.func138, Tryz.ntmps138
  go_wp2
  refine wp_loop_rounds 13 ?_
  iterate 13
    rw [rounds_succ]
    go_wp2
  simp only [or_first c0 k0, or_first c4 k4, or_first c8 k8, or_next _ _ (show c0 < 16777216 by omega) k1, or_next _ _ (show c4 < 16777216 by omega) k5, or_next _ _ (show c8 < 16777216 by omega) k9,
    or_next _ _ (show c0 * 256 + c1 < 16777216 by omega) k2, or_next _ _ (show c4 * 256 + c5 < 16777216 by omega) k6, or_next _ _ (show c8 * 256 + c9 < 16777216 by omega) k10,
    or_next _ _ (show (c0 * 256 + c1) * 256 + c2 < 16777216 by omega) k3, or_next _ _ (show (c4 * 256 + c5) * 256 + c6 < 16777216 by omega) k7, or_next _ _ (show (c8 * 256 + c9) * 256 + c10 < 16777216 by omega) k11]
  refine bodyPost_ret (v := .tuple #[edgeV (((c0 * 256 + c1) * 256 + c2) * 256 + c3, ((c4 * 256 + c5) * 256 + c6) * 256 + c7, ((c8 * 256 + c9) * 256 + c10) * 256 + c11), .int .i64 0]) (by simp [results, Tryz.results138, go_sem, ↓IntWalk.iteOmega, edgeV]) rfl ⟨rfl, ?_⟩
  exact (ext_alloc w _).alloc (by simp) _

theorem mof_no (n cap : Nat) (ao : Option Addr) (w : World) (h12 : n ≠ 12) :
    Calls Tryz.prog 138 #[.slice ao n cap] w fun e w' => e = .returned (.tuple #[edgeV (0, 0, 0), .int .i64 3]) ∧ Below w.heap.size w w' := by
  have hd : ((n : Int) != 12) = true := by simp; omega
  go_enter Tryz.func138, Tryz.ntmps138
  go_wp2
  refine bodyPost_ret (v := .tuple #[edgeV (0, 0, 0), .int .i64 3]) (by simp [results, Tryz.results138, go_sem, ↓IntWalk.iteOmega, edgeV]) rfl ⟨rfl, ?_⟩
  exact ext_alloc w _

def belowE (x y : EdgeD) : Bool := if x.1 = y.1 then (if x.2.1 = y.2.1 then decide (x.2.2 < y.2.2) else decide (x.2.1 < y.2.1)) else decide (x.1 < y.1)
theorem belowE_key (x y : EdgeD) (hx : okE x) (hy : okE y) : belowE x y = true ↔ key3 x.1 x.2.1 x.2.2 < key3 y.1 y.2.1 y.2.2 := by
  rw [key3_lt _ _ _ _ _ _ hx.1 hx.2.1 hx.2.2 hy.1 hy.2.1 hy.2.2]
  unfold belowE
  split
  · split
    · rw [decide_eq_true_eq]; omega
    · rw [decide_eq_true_eq]; omega
  · rw [decide_eq_true_eq]; omega

theorem ebelow_any (x y : EdgeD) (w : World) : Calls Tryz.prog 59 #[edgeV x, edgeV y] w fun e w' => e = .returned (.bool (belowE x y)) ∧ Below w.heap.size w w' := by
  obtain ⟨x0, x1, x2⟩ := x
  obtain ⟨y0, y1, y2⟩ := y
  unfold edgeV belowE
  simp only
  have hB : Below w.heap.size w ((w.alloc (Obj.cells #[Value.int IntKind.u32 x0, Value.int IntKind.u32 x1, Value.int IntKind.u32 x2] 48)).alloc (Obj.cells #[Value.int IntKind.u32 y0, Value.int IntKind.u32 y1, Value.int IntKind.u32 y2] 48)) := (ext_alloc w _).alloc (by simp) _
  have c : ∀ a b : Nat, decide ((a : Int) < (b : Int)) = decide (a < b) := fun a b => by rw [decide_eq_decide]; omega
  by_cases h0 : x0 = y0
  · have d0 : ((x0 : Int) != (y0 : Int)) = false := by simp [h0]
    rw [if_pos h0]
    by_cases h1 : x1 = y1
    · have d1 : ((x1 : Int) != (y1 : Int)) = false := by simp [h1]
      rw [if_pos h1]
      have HC := Lib.hid (c x2 y2)
      clear c h0 h1
      go_enter Tryz.func59, Tryz.ntmps59
      go_wp2
      go_ret
      exact ⟨by first | rfl | (rw [← HC.out]), hB⟩
    · have d1 : ((x1 : Int) != (y1 : Int)) = true := by simp; omega
      rw [if_neg h1]
      have HC := Lib.hid (c x1 y1)
      clear c h0 h1
      go_enter Tryz.func59, Tryz.ntmps59
      go_wp2
      go_ret
      exact ⟨by first | rfl | (rw [← HC.out]), hB⟩
  · have d0 : ((x0 : Int) != (y0 : Int)) = true := by simp; omega
    rw [if_neg h0]
    have HC := Lib.hid (c x0 y0)
    clear c h0
    go_enter Tryz.func59, Tryz.ntmps59
    go_wp2
    go_ret
    exact ⟨by first | rfl | (rw [← HC.out]), hB⟩
end Go.Proofs.YtcklfffeimnfeaaGreat

namespace Go.Proofs.YtcklfffeimnfeaaGreat
open Go.RowKit

theorem clone_any (l : List UInt8) (ao : Option Addr) (cap : Nat) (w : World) (h0 : 0 < l.length) (hl : l.length ≤ 1073741824) (hrd : Rd w ao l.length (byteVals l)) :
    Calls Tryz.prog 108 #[.slice ao l.length cap] w (RetOwn 5 1 l.length (byteVals l) w) := by
  have hE := bytesElem
  have hsrc : Src Tryz.prog 1 68 (.slice ao l.length cap) l.length (byteVals l) (w.alloc (.cells #[] 5)) := (hrd.ext (ext_alloc w _)).src Tryz.underlying68 cap (byteVals_one l)
  obtain ⟨b, off, rfl, hb, hc⟩ := hrd.pos h0
  have hnil : (binOp .eql 68 (.slice (some ⟨b, off, none⟩) l.length cap) (.slice none 0 0)).run Tryz.prog w = .ok (.bool false) w := Go.run_eql_slice_nil w _ _ _ _ _ Tryz.underlying68
  have Hsrc := Lib.hid hsrc
  clear hsrc hc hrd
  go_enter Tryz.func108, Tryz.ntmps108
  go_wp2_with (at_builtin; refine wpList_app rfl (.tmp 5) (.tmp 6) 68 68 rfl hE (Own.emptyAt w 5 1 w.heap.size rfl) rfl rfl Hsrc.out (by simp [maxLen]; omega) (by omega) ?_; intro ao4 cap4 g4 W4 ho4 hg4 hon4; obtain ⟨hG, hBB⟩ := app_blocksM (w := w) (W := w.alloc (.cells #[] 5)) (fun k h => by cases h; exact Nat.le_refl _) (ext_alloc w _) hg4 hon4; have Ho4 := Lib.hid ho4; clear ho4 hg4 hon4)
  go_ret
  exact ⟨ao4, cap4, g4, by simp, by simpa using Ho4.out, hG, hBB⟩

theorem cmp_lt : ∀ (a b : List UInt8), (Lib.compareBytes a b < 0 ↔ a < b)
  | [], [] => by simp [Lib.compareBytes]
  | [], y :: ys => by simp [Lib.compareBytes]
  | x :: xs, [] => by simp [Lib.compareBytes]
  | x :: xs, y :: ys => by
    have ih := cmp_lt xs ys
    unfold Lib.compareBytes
    rw [List.cons_lt_cons_iff]
    by_cases h1 : x < y
    · simp [h1]
    · by_cases h2 : y < x
      · have : x ≠ y := fun e => by subst e; exact h1 h2
        simp [h1, h2, this]
      · have : x = y := UInt8.le_antisymm (UInt8.not_lt.1 h2) (UInt8.not_lt.1 h1)
        subst this
        simpa [h1] using ih
theorem load_bytes {P : Program} (w : World) : ∀ (l : List UInt8) (b off : Nat) (acc : ByteArray), (∀ j x, l[j]? = some x → w.cell? ⟨b, off + j, none⟩ = some (.int .u8 x.toNat)) →
    (Extern.Bytes.loadBytes ⟨b, off, none⟩ l.length acc).run P w = .ok ⟨acc.data ++ l.toArray⟩ w
  | [], b, off, acc, _ => by simp [Extern.Bytes.loadBytes]
  | x :: l, b, off, acc, h => by
    have h0 : w.cell? ⟨b, off, none⟩ = some (.int .u8 x.toNat) := by simpa using h 0 x rfl
    have ih := load_bytes (P := P) w l b (off + 1) (acc.push x) (fun j y hy => by
      have := h (j + 1) y (by simpa using hy)
      rw [show off + 1 + j = off + (j + 1) by omega]; exact this)
    have hx : ((x.toNat : Int).toNat).toUInt8 = x := by simp
    simp only [List.length_cons, Extern.Bytes.loadBytes, Sem.run_bind, run_load, h0, Result.andThen, hx, Addr.add_lit]
    rw [ih]
    congr 1
    apply ByteArray.ext
    simp
theorem bytesOf_any {P : Program} (w : World) (l : List UInt8) (ao : Option Addr) (cap : Nat) (h : Rd w ao l.length (byteVals l)) : (Extern.Bytes.bytesOf (.slice ao l.length cap)).run P w = .ok (bs l) w := by
  rcases Nat.eq_zero_or_pos l.length with h0 | h0
  · obtain rfl : l = [] := List.eq_nil_of_length_eq_zero h0
    cases ao with
    | none => rfl
    | some a => simp [Extern.Bytes.bytesOf, Extern.Bytes.loadBytes, bs]; rfl
  · obtain ⟨b, off, rfl, hb, hc⟩ := h.pos h0
    have := load_bytes (P := P) w l b off .empty (fun j x hx => by
      have hj := (List.getElem?_eq_some_iff.1 hx).1
      rw [hc j hj]
      simp [byteVals, hx])
    simp only [Extern.Bytes.bytesOf]
    rw [this]
    simp [bs]
theorem run_compareB {P : Program} (a b : List UInt8) (ao bo : Option Addr) (ca cb : Nat) (w : World) (ha : Rd w ao a.length (byteVals a)) (hb : Rd w bo b.length (byteVals b)) :
    (Extern.BytealgCompare.compare #[.slice ao a.length ca, .slice bo b.length cb]).run P w = .ok (.int .i64 (Lib.compareBytes a b)) w := by
  change Sem.run P (do pure (goInt (Extern.BytealgCompare.cmp (← Extern.Bytes.bytesOf (.slice ao a.length ca)) (← Extern.Bytes.bytesOf (.slice bo b.length cb))))) w = _
  simp only [Sem.run_bind, bytesOf_any w a ao ca ha, bytesOf_any w b bo cb hb, Sem.run_pure, Result.andThen]
  rw [Lib.cmp_eq, bs_data, bs_data]
  rfl
theorem bcompare_any (a b : List UInt8) (ao bo : Option Addr) (ca cb : Nat) (w : World) (ha : Rd w ao a.length (byteVals a)) (hb : Rd w bo b.length (byteVals b)) :
    Calls Tryz.prog 31 #[.slice ao a.length ca, .slice bo b.length cb] w fun e w' => e = .returned (.int .i64 (Lib.compareBytes a b)) ∧ w' = w := by
  go_enter Tryz.func31, Tryz.ntmps31
  go_wp2
  rw [run_callFunc_extern Tryz.func64 (by kernel_rfl) (by kernel_rfl) (by kernel_rfl) (e := Extern.BytealgCompare.compare) (by kernel_rfl), run_compareB a b ao bo ca cb w ha hb]
  simp only [Result.andThen]
  rw [Oper.upon_value]
  go_wp2
  go_ret
  exact ⟨rfl, rfl⟩
end Go.Proofs.YtcklfffeimnfeaaGreat

namespace Go.Proofs.YtcklfffeimnfeaaGreat
open Go.RowKit

abbrev RowD := Nat × List ArcD
/-- the row that isn't told yet, and the key that was taken last, in block m -/
structure MG (m : Nat) (row : RowD) (last : List UInt8) (ao : Option Addr) (cap : Nat) (g : Option Nat) (lo : Option Addr) (lc : Nat) (W : World) : Prop where
  c0 : W.cell? ⟨m, 0, none⟩ = some (.int .u32 (row.1 : Nat))
  c1 : W.cell? ⟨m, 1, none⟩ = some (.slice ao row.2.length cap)
  c2 : W.cell? ⟨m, 2, none⟩ = some (.slice lo last.length lc)
  f0 : W.frozen? ⟨m, 0, none⟩ = false
  f1 : W.frozen? ⟨m, 1, none⟩ = false
  f2 : W.frozen? ⟨m, 2, none⟩ = false
  own : OwnS arcRep (fun _ => False) W ao cap g 85 row.2
  rd : Rd W lo last.length (byteVals last)
  lt : m < W.heap.size
  ne : g ≠ some m
  lne : ∀ b off, lo = some ⟨b, off, none⟩ → 0 < last.length → b ≠ m ∧ g ≠ some b
theorem MG.ext {m : Nat} {row : RowD} {last : List UInt8} {ao : Option Addr} {cap : Nat} {g : Option Nat} {lo : Option Addr} {lc : Nat} {W W' : World} (h : MG m row last ao cap g lo lc W) (hB : Below W.heap.size W W') : MG m row last ao cap g lo lc W' := by
  obtain ⟨c0, c1, c2, f0, f1, f2, o, r, l, n, ln⟩ := h
  have hs := hB.size
  exact ⟨((bcell hB).1 _ _ l).trans c0, ((bcell hB).1 _ _ l).trans c1, ((bcell hB).1 _ _ l).trans c2, ((bcell hB).2 _ _ l).trans f0, ((bcell hB).2 _ _ l).trans f1, ((bcell hB).2 _ _ l).trans f2, o.ext hB, r.ext hB, by omega, n, ln⟩

/-- .. its arcs may be another's meanwhile -/
structure MH (m : Nat) (row : RowD) (last : List UInt8) (ao : Option Addr) (cap : Nat) (lo : Option Addr) (lc : Nat) (W : World) : Prop where
  c0 : W.cell? ⟨m, 0, none⟩ = some (.int .u32 (row.1 : Nat))
  c1 : W.cell? ⟨m, 1, none⟩ = some (.slice ao row.2.length cap)
  c2 : W.cell? ⟨m, 2, none⟩ = some (.slice lo last.length lc)
  f0 : W.frozen? ⟨m, 0, none⟩ = false
  f1 : W.frozen? ⟨m, 1, none⟩ = false
  f2 : W.frozen? ⟨m, 2, none⟩ = false
  rd : Rd W lo last.length (byteVals last)
  lt : m < W.heap.size
  lne : ∀ b off, lo = some ⟨b, off, none⟩ → 0 < last.length → b ≠ m
theorem MG.toH {m : Nat} {row : RowD} {last : List UInt8} {ao : Option Addr} {cap : Nat} {g : Option Nat} {lo : Option Addr} {lc : Nat} {W : World} (h : MG m row last ao cap g lo lc W) : MH m row last ao cap lo lc W :=
  ⟨h.c0, h.c1, h.c2, h.f0, h.f1, h.f2, h.rd, h.lt, fun b off e h0 => (h.lne b off e h0).1⟩
theorem MH.only {m : Nat} {row : RowD} {last : List UInt8} {ao : Option Addr} {cap : Nat} {lo : Option Addr} {lc : Nat} {W W' : World} {fp : Nat → Prop} (h : MH m row last ao cap lo lc W) (hs : Only fp W W') (hm : ¬ fp m) (hl : 0 < last.length → ∀ b off, lo = some ⟨b, off, none⟩ → ¬ fp b) : MH m row last ao cap lo lc W' :=
  ⟨(hs.cell h.lt hm 0).trans h.c0, (hs.cell h.lt hm 1).trans h.c1, (hs.cell h.lt hm 2).trans h.c2, (hs.frozen h.lt hm 0).trans h.f0, (hs.frozen h.lt hm 1).trans h.f1, (hs.frozen h.lt hm 2).trans h.f2,
    h.rd.only hs (fun h0 k off e => hl h0 k off e), Nat.lt_of_lt_of_le h.lt hs.size, h.lne⟩
theorem MH.ext {m : Nat} {row : RowD} {last : List UInt8} {ao : Option Addr} {cap : Nat} {lo : Option Addr} {lc : Nat} {W W' : World} (h : MH m row last ao cap lo lc W) (hB : Below W.heap.size W W') : MH m row last ao cap lo lc W' :=
  h.only (Only.of_below (fp := fun _ => False) hB) (fun h => h) (fun _ _ _ _ h => h)

def fullB (row : RowD) (x : EdgeD) : Bool := decide (0 < row.2.length) && !(row.1 == x.1)
theorem full_any (m : Nat) (row : RowD) (last : List UInt8) (ao : Option Addr) (cap : Nat) (lo : Option Addr) (lc : Nat) (x : EdgeD) (w : World) (h : MH m row last ao cap lo lc w) :
    Calls Tryz.prog 106 #[.pointer (some ⟨m, 0, none⟩), edgeV x] w fun e w' => e = .returned (.bool (fullB row x)) ∧ Below w.heap.size w w' := by
  obtain ⟨fr, arcs⟩ := row
  obtain ⟨x0, x1, x2⟩ := x
  have hc0 := h.c0
  have hc1 := h.c1
  have hlt := h.lt
  clear h
  simp only at hc0 hc1
  unfold edgeV fullB
  simp only
  have hB : Below w.heap.size w (w.alloc (Obj.cells #[Value.int IntKind.u32 x0, Value.int IntKind.u32 x1, Value.int IntKind.u32 x2] 48)) := ext_alloc w _
  have hnm : ¬ m = w.heap.size := by omega
  have hnm2 : ¬ w.heap.size = m := by omega
  generalize arcs.length = n at hc1 ⊢
  by_cases h0 : 0 < n
  · have hd : decide ((0 : Int) < (n : Int)) = true := decide_eq_true (by omega)
    have hd' : decide (0 < n) = true := decide_eq_true h0
    by_cases h1 : fr = x0
    · have he : ((fr : Int) != (x0 : Int)) = false := by simp [h1]
      have Hr := Lib.hid (show (decide (0 < n) && !(fr == x0)) = false by simp [h1])
      clear h0 h1
      go_enter Tryz.func106, Tryz.ntmps106
      go_wp2
      go_quiet (fail)
      go_wp2
      go_ret
      exact ⟨by rw [Hr.out]; rfl, below_drewN hB _⟩
    · have he : ((fr : Int) != (x0 : Int)) = true := by simp; omega
      have Hr := Lib.hid (show (decide (0 < n) && !(fr == x0)) = true by simp [h0, h1])
      clear h0 h1
      go_enter Tryz.func106, Tryz.ntmps106
      go_wp2
      go_quiet (fail)
      go_wp2
      go_ret
      exact ⟨by rw [Hr.out]; rfl, below_drewN hB _⟩
  · have hd : decide ((0 : Int) < (n : Int)) = false := decide_eq_false (by omega)
    have hd' : decide (0 < n) = false := decide_eq_false h0
    have Hr := Lib.hid (show (decide (0 < n) && !(fr == x0)) = false by simp [h0])
    clear h0
    go_enter Tryz.func106, Tryz.ntmps106
    go_wp2
    go_quiet (fail)
    go_wp2
    go_ret
    exact ⟨by rw [Hr.out]; rfl, below_drewN hB _⟩

/-- a key's edge -/
def keyE (k : List UInt8) : EdgeD := if k.length = 12 then keyOf k else (0, 0, 0)
def sameRow (row : RowD) (x : EdgeD) : Prop := 0 < row.2.length ∧ row.1 = x.1
instance (row : RowD) (x : EdgeD) : Decidable (sameRow row x) := inferInstanceAs (Decidable (_ ∧ _))
def leftOf (row : RowD) (x : EdgeD) : Nat := if sameRow row x then 2147483647 - sumA row.2 else 2147483647
/-- why a key can't be taken -/
def mayErr (row : RowD) (last key : List UInt8) : Nat :=
  if key.length ≠ 12 ∨ (keyE key).2.2 = 0 then 3 else if Lib.compareBytes key last < 0 then 13 else if leftOf row (keyE key) < (keyE key).2.2 then 10 else 0
theorem keyE_ok (k : List UInt8) : okE (keyE k) := by
  unfold keyE
  split
  · rename_i h
    obtain ⟨_, h1, h2, h3⟩ := key3_keyOf k h
    exact ⟨h1, h2, h3⟩
  · exact ⟨by simp, by simp, by simp⟩
theorem mof_any (l : List UInt8) (ao : Option Addr) (cap : Nat) (w : World) (hrd : Rd w ao l.length (byteVals l)) :
    Calls Tryz.prog 138 #[.slice ao l.length cap] w fun e w' => e = .returned (.tuple #[edgeV (keyE l), .int .i64 ((if l.length = 12 then 0 else 3 : Nat) : Nat)]) ∧ Below w.heap.size w w' := by
  by_cases h : l.length = 12
  · have := mof_yes l ao cap w h hrd
    unfold keyE
    rw [if_pos h, if_pos h]
    exact this
  · have := mof_no l.length cap ao w h
    unfold keyE
    rw [if_neg h, if_neg h]
    exact this

theorem gmay14_any (m : Nat) (row : RowD) (last key : List UInt8) (ao : Option Addr) (cap : Nat) (g : Option Nat) (lo : Option Addr) (lc : Nat) (ko : Option Addr) (kc : Nat) (w : World) (h : MG m row last ao cap g lo lc w) (hk : Rd w ko key.length (byteVals key)) (hlen : row.2.length ≤ 1073741824) (hsum : sumA row.2 ≤ 2147483647) :
    Calls Tryz.prog 105 #[.pointer (some ⟨m, 0, none⟩), .slice ko key.length kc] w fun e w' => e = .returned (.tuple #[edgeV (keyE key), .int .i64 (mayErr row last key : Nat)]) ∧ Below w.heap.size w w' := by
  have hOf := fun (W : World) (hB : Below w.heap.size w W) => mof_any key ko kc W (hk.ext hB)
  have hCmp := fun (W : World) (hB : Below w.heap.size w W) => bcompare_any key last ko lo kc lc W (hk.ext hB) (h.rd.ext hB)
  have hSum := fun (W : World) (hB : Below w.heap.size w W) => gsum_any row.2 ao cap _ W hlen (h.own.ext hB).rd
  have hm := fun (W : World) (hB : Below w.heap.size w W) => h.ext hB
  have hmlt := h.lt
  have hokx := keyE_ok key
  have herr : mayErr row last key = if (if key.length = 12 then 0 else 3) ≠ 0 ∨ (keyE key).2.2 = 0 then 3 else if Lib.compareBytes key last < 0 then 13 else if leftOf row (keyE key) < (keyE key).2.2 then 10 else 0 := by
    unfold mayErr
    by_cases h12 : key.length = 12 <;> simp [h12]
  have hleft : (row.2.length = 0 ∧ leftOf row (keyE key) = 2147483647) ∨ (0 < row.2.length ∧ row.1 ≠ (keyE key).1 ∧ leftOf row (keyE key) = 2147483647) ∨ (0 < row.2.length ∧ row.1 = (keyE key).1 ∧ leftOf row (keyE key) = 2147483647 - sumA row.2) := by
    unfold leftOf sameRow
    by_cases h1 : 0 < row.2.length
    · by_cases h2 : row.1 = (keyE key).1
      · exact .inr (.inr ⟨h1, h2, if_pos ⟨h1, h2⟩⟩)
      · exact .inr (.inl ⟨h1, h2, if_neg (fun h => h2 h.2)⟩)
    · exact .inl ⟨by omega, if_neg (fun h => h1 h.1)⟩
  generalize (if key.length = 12 then 0 else 3 : Nat) = ef at hOf herr
  generalize leftOf row (keyE key) = left at herr hleft
  generalize keyE key = x at hOf herr hleft hokx ⊢
  generalize mayErr row last key = er at herr ⊢
  generalize Lib.compareBytes key last = cmp at hCmp herr
  obtain ⟨x0, x1, x2⟩ := x
  have hx2 : x2 < 4294967296 := hokx.2.2
  simp only at herr hleft
  simp only [edgeV] at hOf ⊢
  have HOf := Lib.hid hOf
  have HCmp := Lib.hid hCmp
  have HSum := Lib.hid hSum
  have Hm := Lib.hid hm
  have Herr := Lib.hid herr
  have Hleft := Lib.hid hleft
  have Hsum := Lib.hid hsum
  generalize sumA row.2 = S at HSum Hleft Hsum
  obtain ⟨fr, arcs⟩ := row
  simp only at Hleft HSum
  generalize hn : arcs.length = n at HSum Hleft
  have Hn := Lib.hid hn
  clear hOf hCmp hSum hm herr hleft hokx h hk hn hlen hsum
  go_enter Tryz.func105, Tryz.ntmps105
  go_wp2_with fail
  have hEB : EB w.heap.size w (w.alloc (Obj.cells #[Value.int IntKind.u32 0, Value.int IntKind.u32 0, Value.int IntKind.u32 0] 48)) := by
    constructor <;> first | exact ext_alloc w _ | (simp [go_sem, ↓IntWalk.iteOmega])
  have HEB := Lib.hid hEB
  clear hEB
  go_wp2_with (go_at_call 138; refine (HOf.out _ HEB.out.below).mono ?_; rintro e w2 ⟨rfl, hB2⟩; have HE2 := Lib.hid (HEB.out.ext hB2); clear hB2)
  have hF : ∀ W', Below (w2.alloc (Obj.cells #[Value.int IntKind.u32 x0, Value.int IntKind.u32 x1, Value.int IntKind.u32 x2] 48)).heap.size (w2.alloc (Obj.cells #[Value.int IntKind.u32 x0, Value.int IntKind.u32 x1, Value.int IntKind.u32 x2] 48)) W' →
      (W'.cell? ⟨w2.heap.size, 0, none⟩ = some (.int .u32 (x0 : Nat)) ∧ W'.cell? ⟨w2.heap.size, 1, none⟩ = some (.int .u32 (x1 : Nat)) ∧ W'.cell? ⟨w2.heap.size, 2, none⟩ = some (.int .u32 (x2 : Nat))) ∧ EB w.heap.size w W' ∧ MG m (fr, arcs) last ao cap g lo lc W' ∧ w2.heap.size < W'.heap.size := by
    intro W' hB
    have h0 := HE2.out.ext (ext_alloc w2 (Obj.cells #[Value.int IntKind.u32 x0, Value.int IntKind.u32 x1, Value.int IntKind.u32 x2] 48))
    have h1 := h0.ext hB
    have hs := hB.size
    refine ⟨⟨((bcell hB).1 _ 0 (by simp)).trans (by simp [go_sem]), ((bcell hB).1 _ 1 (by simp)).trans (by simp [go_sem]), ((bcell hB).1 _ 2 (by simp)).trans (by simp [go_sem])⟩, h1, Hm.out _ h1.below, by simp at hs; omega⟩
  have HF := Lib.hid hF
  clear hF
  generalize (w2.alloc (Obj.cells #[Value.int IntKind.u32 x0, Value.int IntKind.u32 x1, Value.int IntKind.u32 x2] 48)) = wX at HF ⊢
  obtain ⟨⟨e0, e1, e2⟩, hEB, hMG, hxs⟩ := HF.out wX (Below.refl _ _)
  obtain ⟨hbw, hbs, z0, z1, z2, v0, v1, v2⟩ := hEB
  have mc0 := hMG.c0
  have mc1 := hMG.c1
  have mc2 := hMG.c2
  simp only at mc0 mc1
  rw [Hn.out] at mc1
  have Hbw := Lib.hid hbw
  have hwb : ¬ w.heap.size = w2.heap.size := by have := HE2.out.size; omega
  have hwb2 : ¬ w2.heap.size = w.heap.size := by omega
  have hmw : ¬ m = w.heap.size := by omega
  have hmb : ¬ m = w2.heap.size := by have := HE2.out.size; omega
  clear hMG hbw
  have hout : (((ef : Int) != 0) = true ∧ er = 3) ∨ (((ef : Int) != 0) = false ∧ ((x2 : Int) == 0) = true ∧ er = 3) ∨ (((ef : Int) != 0) = false ∧ ((x2 : Int) == 0) = false ∧ decide (cmp < 0) = true ∧ er = 13) ∨
      (((ef : Int) != 0) = false ∧ ((x2 : Int) == 0) = false ∧ decide (cmp < 0) = false ∧ left < x2 ∧ er = 10) ∨ (((ef : Int) != 0) = false ∧ ((x2 : Int) == 0) = false ∧ decide (cmp < 0) = false ∧ x2 ≤ left ∧ er = 0) := by
    have h := Herr.out
    by_cases h1 : ef = 0
    · have b1 : ((ef : Int) != 0) = false := by simp [h1]
      by_cases h2 : x2 = 0
      · rw [if_pos (.inr h2)] at h
        exact .inr (.inl ⟨b1, by simp [h2], h⟩)
      · have b2 : ((x2 : Int) == 0) = false := by simp; omega
        rw [if_neg (by omega)] at h
        by_cases h3 : cmp < 0
        · rw [if_pos h3] at h
          exact .inr (.inr (.inl ⟨b1, b2, decide_eq_true h3, h⟩))
        · rw [if_neg h3] at h
          by_cases h4 : left < x2
          · rw [if_pos h4] at h
            exact .inr (.inr (.inr (.inl ⟨b1, b2, decide_eq_false h3, h4, h⟩)))
          · rw [if_neg h4] at h
            exact .inr (.inr (.inr (.inr ⟨b1, b2, decide_eq_false h3, by omega, h⟩)))
    · rw [if_pos (.inl h1)] at h
      exact .inl ⟨by simp; omega, h⟩
  have hsS := Hsum.out
  rcases Hleft.out with ⟨q1, rfl⟩ | ⟨q1, q2, rfl⟩ | ⟨q1, q2, hql⟩
  · have d1 : decide ((0 : Int) < (n : Int)) = false := decide_eq_false (by omega)
    have d1' : decide (0 < n) = false := decide_eq_false (by omega)
    clear q1 Hleft Herr
    rcases hout with ⟨b1, rfl⟩ | ⟨b1, b2, rfl⟩ | ⟨b1, b2, b3, rfl⟩ | ⟨b1, b2, b3, b4, rfl⟩ | ⟨b1, b2, b3, b4, rfl⟩
    · go_quiet (fail)
      go_wp2_with (first
        | (go_at_call 84; refine (HSum.out _ (ext_trans Hbw.out (ext_drewN _ _))).mono ?_; rintro e w3 ⟨rfl, hB3⟩; obtain ⟨⟨e0, e1, e2⟩, hEB, hMG, hxs⟩ := HF.out w3 (ext_trans (ext_drewN _ _) hB3); obtain ⟨hbw, hbs, z0, z1, z2, v0, v1, v2⟩ := hEB; have mc0 := hMG.c0; have mc1 := hMG.c1; have mc2 := hMG.c2; have Hbw := Lib.hid hbw; clear hMG hbw hB3)
        | (go_at_call 31; refine (HCmp.out _ (by first | exact Hbw.out | exact ext_trans Hbw.out (ext_drewN _ _))).mono ?_; rintro e w4 ⟨rfl, rfl⟩))
      refine bodyPost_ret (v := .tuple #[.agg #[.int .u32 (x0 : Nat), .int .u32 (x1 : Nat), .int .u32 (x2 : Nat)], .int .i64 3]) (by simp [results, Tryz.results105, go_sem, cell_set_ite, ↓IntWalk.iteOmega, z0, z1, z2, e0, e1, e2]) rfl ⟨rfl, ?_⟩
      first
        | exact (((Hbw.out.setCell (by simp) _).setCell (by simp) _).setCell (by simp) _)
        | exact ((((ext_trans Hbw.out (ext_drewN _ _)).setCell (by simp) _).setCell (by simp) _).setCell (by simp) _)
    · go_quiet (fail)
      go_wp2_with (first
        | (go_at_call 84; refine (HSum.out _ (ext_trans Hbw.out (ext_drewN _ _))).mono ?_; rintro e w3 ⟨rfl, hB3⟩; obtain ⟨⟨e0, e1, e2⟩, hEB, hMG, hxs⟩ := HF.out w3 (ext_trans (ext_drewN _ _) hB3); obtain ⟨hbw, hbs, z0, z1, z2, v0, v1, v2⟩ := hEB; have mc0 := hMG.c0; have mc1 := hMG.c1; have mc2 := hMG.c2; have Hbw := Lib.hid hbw; clear hMG hbw hB3)
        | (go_at_call 31; refine (HCmp.out _ (by first | exact Hbw.out | exact ext_trans Hbw.out (ext_drewN _ _))).mono ?_; rintro e w4 ⟨rfl, rfl⟩))
      refine bodyPost_ret (v := .tuple #[.agg #[.int .u32 (x0 : Nat), .int .u32 (x1 : Nat), .int .u32 (x2 : Nat)], .int .i64 3]) (by simp [results, Tryz.results105, go_sem, cell_set_ite, ↓IntWalk.iteOmega, z0, z1, z2, e0, e1, e2]) rfl ⟨rfl, ?_⟩
      first
        | exact (((Hbw.out.setCell (by simp) _).setCell (by simp) _).setCell (by simp) _)
        | exact ((((ext_trans Hbw.out (ext_drewN _ _)).setCell (by simp) _).setCell (by simp) _).setCell (by simp) _)
    · go_quiet (fail)
      go_wp2_with (first
        | (go_at_call 84; refine (HSum.out _ (ext_trans Hbw.out (ext_drewN _ _))).mono ?_; rintro e w3 ⟨rfl, hB3⟩; obtain ⟨⟨e0, e1, e2⟩, hEB, hMG, hxs⟩ := HF.out w3 (ext_trans (ext_drewN _ _) hB3); obtain ⟨hbw, hbs, z0, z1, z2, v0, v1, v2⟩ := hEB; have mc0 := hMG.c0; have mc1 := hMG.c1; have mc2 := hMG.c2; have Hbw := Lib.hid hbw; clear hMG hbw hB3)
        | (go_at_call 31; refine (HCmp.out _ (by first | exact Hbw.out | exact ext_trans Hbw.out (ext_drewN _ _))).mono ?_; rintro e w4 ⟨rfl, rfl⟩))
      refine bodyPost_ret (v := .tuple #[.agg #[.int .u32 (x0 : Nat), .int .u32 (x1 : Nat), .int .u32 (x2 : Nat)], .int .i64 13]) (by simp [results, Tryz.results105, go_sem, cell_set_ite, ↓IntWalk.iteOmega, z0, z1, z2, e0, e1, e2]) rfl ⟨rfl, ?_⟩
      first
        | exact (((Hbw.out.setCell (by simp) _).setCell (by simp) _).setCell (by simp) _)
        | exact ((((ext_trans Hbw.out (ext_drewN _ _)).setCell (by simp) _).setCell (by simp) _).setCell (by simp) _)
    · have d3 : decide ((2147483647 : Int) < (x2 : Int)) = true := decide_eq_true (by omega)
      clear b4
      go_quiet (fail)
      go_wp2_with (first
        | (go_at_call 84; refine (HSum.out _ (ext_trans Hbw.out (ext_drewN _ _))).mono ?_; rintro e w3 ⟨rfl, hB3⟩; obtain ⟨⟨e0, e1, e2⟩, hEB, hMG, hxs⟩ := HF.out w3 (ext_trans (ext_drewN _ _) hB3); obtain ⟨hbw, hbs, z0, z1, z2, v0, v1, v2⟩ := hEB; have mc0 := hMG.c0; have mc1 := hMG.c1; have mc2 := hMG.c2; have Hbw := Lib.hid hbw; clear hMG hbw hB3)
        | (go_at_call 31; refine (HCmp.out _ (by first | exact Hbw.out | exact ext_trans Hbw.out (ext_drewN _ _))).mono ?_; rintro e w4 ⟨rfl, rfl⟩))
      refine bodyPost_ret (v := .tuple #[.agg #[.int .u32 (x0 : Nat), .int .u32 (x1 : Nat), .int .u32 (x2 : Nat)], .int .i64 10]) (by simp [results, Tryz.results105, go_sem, cell_set_ite, ↓IntWalk.iteOmega, z0, z1, z2, e0, e1, e2]) rfl ⟨rfl, ?_⟩
      first
        | exact (((Hbw.out.setCell (by simp) _).setCell (by simp) _).setCell (by simp) _)
        | exact ((((ext_trans Hbw.out (ext_drewN _ _)).setCell (by simp) _).setCell (by simp) _).setCell (by simp) _)
    · have d3 : decide ((2147483647 : Int) < (x2 : Int)) = false := decide_eq_false (by omega)
      clear b4
      go_quiet (fail)
      go_wp2_with (first
        | (go_at_call 84; refine (HSum.out _ (ext_trans Hbw.out (ext_drewN _ _))).mono ?_; rintro e w3 ⟨rfl, hB3⟩; obtain ⟨⟨e0, e1, e2⟩, hEB, hMG, hxs⟩ := HF.out w3 (ext_trans (ext_drewN _ _) hB3); obtain ⟨hbw, hbs, z0, z1, z2, v0, v1, v2⟩ := hEB; have mc0 := hMG.c0; have mc1 := hMG.c1; have mc2 := hMG.c2; have Hbw := Lib.hid hbw; clear hMG hbw hB3)
        | (go_at_call 31; refine (HCmp.out _ (by first | exact Hbw.out | exact ext_trans Hbw.out (ext_drewN _ _))).mono ?_; rintro e w4 ⟨rfl, rfl⟩))
      refine bodyPost_ret (v := .tuple #[.agg #[.int .u32 (x0 : Nat), .int .u32 (x1 : Nat), .int .u32 (x2 : Nat)], .int .i64 0]) (by simp [results, Tryz.results105, go_sem, cell_set_ite, ↓IntWalk.iteOmega, z0, z1, z2, e0, e1, e2]) rfl ⟨rfl, ?_⟩
      first
        | exact (((Hbw.out.setCell (by simp) _).setCell (by simp) _).setCell (by simp) _)
        | exact ((((ext_trans Hbw.out (ext_drewN _ _)).setCell (by simp) _).setCell (by simp) _).setCell (by simp) _)
  · have d1 : decide ((0 : Int) < (n : Int)) = true := decide_eq_true (by omega)
    have d1' : decide (0 < n) = true := decide_eq_true (by omega)
    have d2 : ((fr : Int) == (x0 : Int)) = false := by simp; omega
    clear q1 q2 Hleft Herr
    rcases hout with ⟨b1, rfl⟩ | ⟨b1, b2, rfl⟩ | ⟨b1, b2, b3, rfl⟩ | ⟨b1, b2, b3, b4, rfl⟩ | ⟨b1, b2, b3, b4, rfl⟩
    · go_quiet (fail)
      go_wp2_with (first
        | (go_at_call 84; refine (HSum.out _ (ext_trans Hbw.out (ext_drewN _ _))).mono ?_; rintro e w3 ⟨rfl, hB3⟩; obtain ⟨⟨e0, e1, e2⟩, hEB, hMG, hxs⟩ := HF.out w3 (ext_trans (ext_drewN _ _) hB3); obtain ⟨hbw, hbs, z0, z1, z2, v0, v1, v2⟩ := hEB; have mc0 := hMG.c0; have mc1 := hMG.c1; have mc2 := hMG.c2; have Hbw := Lib.hid hbw; clear hMG hbw hB3)
        | (go_at_call 31; refine (HCmp.out _ (by first | exact Hbw.out | exact ext_trans Hbw.out (ext_drewN _ _))).mono ?_; rintro e w4 ⟨rfl, rfl⟩))
      refine bodyPost_ret (v := .tuple #[.agg #[.int .u32 (x0 : Nat), .int .u32 (x1 : Nat), .int .u32 (x2 : Nat)], .int .i64 3]) (by simp [results, Tryz.results105, go_sem, cell_set_ite, ↓IntWalk.iteOmega, z0, z1, z2, e0, e1, e2]) rfl ⟨rfl, ?_⟩
      first
        | exact (((Hbw.out.setCell (by simp) _).setCell (by simp) _).setCell (by simp) _)
        | exact ((((ext_trans Hbw.out (ext_drewN _ _)).setCell (by simp) _).setCell (by simp) _).setCell (by simp) _)
    · go_quiet (fail)
      go_wp2_with (first
        | (go_at_call 84; refine (HSum.out _ (ext_trans Hbw.out (ext_drewN _ _))).mono ?_; rintro e w3 ⟨rfl, hB3⟩; obtain ⟨⟨e0, e1, e2⟩, hEB, hMG, hxs⟩ := HF.out w3 (ext_trans (ext_drewN _ _) hB3); obtain ⟨hbw, hbs, z0, z1, z2, v0, v1, v2⟩ := hEB; have mc0 := hMG.c0; have mc1 := hMG.c1; have mc2 := hMG.c2; have Hbw := Lib.hid hbw; clear hMG hbw hB3)
        | (go_at_call 31; refine (HCmp.out _ (by first | exact Hbw.out | exact ext_trans Hbw.out (ext_drewN _ _))).mono ?_; rintro e w4 ⟨rfl, rfl⟩))
      refine bodyPost_ret (v := .tuple #[.agg #[.int .u32 (x0 : Nat), .int .u32 (x1 : Nat), .int .u32 (x2 : Nat)], .int .i64 3]) (by simp [results, Tryz.results105, go_sem, cell_set_ite, ↓IntWalk.iteOmega, z0, z1, z2, e0, e1, e2]) rfl ⟨rfl, ?_⟩
      first
        | exact (((Hbw.out.setCell (by simp) _).setCell (by simp) _).setCell (by simp) _)
        | exact ((((ext_trans Hbw.out (ext_drewN _ _)).setCell (by simp) _).setCell (by simp) _).setCell (by simp) _)
    · go_quiet (fail)
      go_wp2_with (first
        | (go_at_call 84; refine (HSum.out _ (ext_trans Hbw.out (ext_drewN _ _))).mono ?_; rintro e w3 ⟨rfl, hB3⟩; obtain ⟨⟨e0, e1, e2⟩, hEB, hMG, hxs⟩ := HF.out w3 (ext_trans (ext_drewN _ _) hB3); obtain ⟨hbw, hbs, z0, z1, z2, v0, v1, v2⟩ := hEB; have mc0 := hMG.c0; have mc1 := hMG.c1; have mc2 := hMG.c2; have Hbw := Lib.hid hbw; clear hMG hbw hB3)
        | (go_at_call 31; refine (HCmp.out _ (by first | exact Hbw.out | exact ext_trans Hbw.out (ext_drewN _ _))).mono ?_; rintro e w4 ⟨rfl, rfl⟩))
      refine bodyPost_ret (v := .tuple #[.agg #[.int .u32 (x0 : Nat), .int .u32 (x1 : Nat), .int .u32 (x2 : Nat)], .int .i64 13]) (by simp [results, Tryz.results105, go_sem, cell_set_ite, ↓IntWalk.iteOmega, z0, z1, z2, e0, e1, e2]) rfl ⟨rfl, ?_⟩
      first
        | exact (((Hbw.out.setCell (by simp) _).setCell (by simp) _).setCell (by simp) _)
        | exact ((((ext_trans Hbw.out (ext_drewN _ _)).setCell (by simp) _).setCell (by simp) _).setCell (by simp) _)
    · have d3 : decide ((2147483647 : Int) < (x2 : Int)) = true := decide_eq_true (by omega)
      clear b4
      go_quiet (fail)
      go_wp2_with (first
        | (go_at_call 84; refine (HSum.out _ (ext_trans Hbw.out (ext_drewN _ _))).mono ?_; rintro e w3 ⟨rfl, hB3⟩; obtain ⟨⟨e0, e1, e2⟩, hEB, hMG, hxs⟩ := HF.out w3 (ext_trans (ext_drewN _ _) hB3); obtain ⟨hbw, hbs, z0, z1, z2, v0, v1, v2⟩ := hEB; have mc0 := hMG.c0; have mc1 := hMG.c1; have mc2 := hMG.c2; have Hbw := Lib.hid hbw; clear hMG hbw hB3)
        | (go_at_call 31; refine (HCmp.out _ (by first | exact Hbw.out | exact ext_trans Hbw.out (ext_drewN _ _))).mono ?_; rintro e w4 ⟨rfl, rfl⟩))
      refine bodyPost_ret (v := .tuple #[.agg #[.int .u32 (x0 : Nat), .int .u32 (x1 : Nat), .int .u32 (x2 : Nat)], .int .i64 10]) (by simp [results, Tryz.results105, go_sem, cell_set_ite, ↓IntWalk.iteOmega, z0, z1, z2, e0, e1, e2]) rfl ⟨rfl, ?_⟩
      first
        | exact (((Hbw.out.setCell (by simp) _).setCell (by simp) _).setCell (by simp) _)
        | exact ((((ext_trans Hbw.out (ext_drewN _ _)).setCell (by simp) _).setCell (by simp) _).setCell (by simp) _)
    · have d3 : decide ((2147483647 : Int) < (x2 : Int)) = false := decide_eq_false (by omega)
      clear b4
      go_quiet (fail)
      go_wp2_with (first
        | (go_at_call 84; refine (HSum.out _ (ext_trans Hbw.out (ext_drewN _ _))).mono ?_; rintro e w3 ⟨rfl, hB3⟩; obtain ⟨⟨e0, e1, e2⟩, hEB, hMG, hxs⟩ := HF.out w3 (ext_trans (ext_drewN _ _) hB3); obtain ⟨hbw, hbs, z0, z1, z2, v0, v1, v2⟩ := hEB; have mc0 := hMG.c0; have mc1 := hMG.c1; have mc2 := hMG.c2; have Hbw := Lib.hid hbw; clear hMG hbw hB3)
        | (go_at_call 31; refine (HCmp.out _ (by first | exact Hbw.out | exact ext_trans Hbw.out (ext_drewN _ _))).mono ?_; rintro e w4 ⟨rfl, rfl⟩))
      refine bodyPost_ret (v := .tuple #[.agg #[.int .u32 (x0 : Nat), .int .u32 (x1 : Nat), .int .u32 (x2 : Nat)], .int .i64 0]) (by simp [results, Tryz.results105, go_sem, cell_set_ite, ↓IntWalk.iteOmega, z0, z1, z2, e0, e1, e2]) rfl ⟨rfl, ?_⟩
      first
        | exact (((Hbw.out.setCell (by simp) _).setCell (by simp) _).setCell (by simp) _)
        | exact ((((ext_trans Hbw.out (ext_drewN _ _)).setCell (by simp) _).setCell (by simp) _).setCell (by simp) _)
  · have d1 : decide ((0 : Int) < (n : Int)) = true := decide_eq_true (by omega)
    have d1' : decide (0 < n) = true := decide_eq_true (by omega)
    have d2 : ((fr : Int) == (x0 : Int)) = true := by simp; omega
    clear q1 q2 Hleft Herr
    rcases hout with ⟨b1, rfl⟩ | ⟨b1, b2, rfl⟩ | ⟨b1, b2, b3, rfl⟩ | ⟨b1, b2, b3, b4, rfl⟩ | ⟨b1, b2, b3, b4, rfl⟩
    · go_quiet (fail)
      go_wp2_with (first
        | (go_at_call 84; refine (HSum.out _ (ext_trans Hbw.out (ext_drewN _ _))).mono ?_; rintro e w3 ⟨rfl, hB3⟩; obtain ⟨⟨e0, e1, e2⟩, hEB, hMG, hxs⟩ := HF.out w3 (ext_trans (ext_drewN _ _) hB3); obtain ⟨hbw, hbs, z0, z1, z2, v0, v1, v2⟩ := hEB; have mc0 := hMG.c0; have mc1 := hMG.c1; have mc2 := hMG.c2; have Hbw := Lib.hid hbw; clear hMG hbw hB3)
        | (go_at_call 31; refine (HCmp.out _ (by first | exact Hbw.out | exact ext_trans Hbw.out (ext_drewN _ _))).mono ?_; rintro e w4 ⟨rfl, rfl⟩))
      refine bodyPost_ret (v := .tuple #[.agg #[.int .u32 (x0 : Nat), .int .u32 (x1 : Nat), .int .u32 (x2 : Nat)], .int .i64 3]) (by simp [results, Tryz.results105, go_sem, cell_set_ite, ↓IntWalk.iteOmega, z0, z1, z2, e0, e1, e2]) rfl ⟨rfl, ?_⟩
      first
        | exact (((Hbw.out.setCell (by simp) _).setCell (by simp) _).setCell (by simp) _)
        | exact ((((ext_trans Hbw.out (ext_drewN _ _)).setCell (by simp) _).setCell (by simp) _).setCell (by simp) _)
    · go_quiet (fail)
      go_wp2_with (first
        | (go_at_call 84; refine (HSum.out _ (ext_trans Hbw.out (ext_drewN _ _))).mono ?_; rintro e w3 ⟨rfl, hB3⟩; obtain ⟨⟨e0, e1, e2⟩, hEB, hMG, hxs⟩ := HF.out w3 (ext_trans (ext_drewN _ _) hB3); obtain ⟨hbw, hbs, z0, z1, z2, v0, v1, v2⟩ := hEB; have mc0 := hMG.c0; have mc1 := hMG.c1; have mc2 := hMG.c2; have Hbw := Lib.hid hbw; clear hMG hbw hB3)
        | (go_at_call 31; refine (HCmp.out _ (by first | exact Hbw.out | exact ext_trans Hbw.out (ext_drewN _ _))).mono ?_; rintro e w4 ⟨rfl, rfl⟩))
      refine bodyPost_ret (v := .tuple #[.agg #[.int .u32 (x0 : Nat), .int .u32 (x1 : Nat), .int .u32 (x2 : Nat)], .int .i64 3]) (by simp [results, Tryz.results105, go_sem, cell_set_ite, ↓IntWalk.iteOmega, z0, z1, z2, e0, e1, e2]) rfl ⟨rfl, ?_⟩
      first
        | exact (((Hbw.out.setCell (by simp) _).setCell (by simp) _).setCell (by simp) _)
        | exact ((((ext_trans Hbw.out (ext_drewN _ _)).setCell (by simp) _).setCell (by simp) _).setCell (by simp) _)
    · go_quiet (fail)
      go_wp2_with (first
        | (go_at_call 84; refine (HSum.out _ (ext_trans Hbw.out (ext_drewN _ _))).mono ?_; rintro e w3 ⟨rfl, hB3⟩; obtain ⟨⟨e0, e1, e2⟩, hEB, hMG, hxs⟩ := HF.out w3 (ext_trans (ext_drewN _ _) hB3); obtain ⟨hbw, hbs, z0, z1, z2, v0, v1, v2⟩ := hEB; have mc0 := hMG.c0; have mc1 := hMG.c1; have mc2 := hMG.c2; have Hbw := Lib.hid hbw; clear hMG hbw hB3)
        | (go_at_call 31; refine (HCmp.out _ (by first | exact Hbw.out | exact ext_trans Hbw.out (ext_drewN _ _))).mono ?_; rintro e w4 ⟨rfl, rfl⟩))
      refine bodyPost_ret (v := .tuple #[.agg #[.int .u32 (x0 : Nat), .int .u32 (x1 : Nat), .int .u32 (x2 : Nat)], .int .i64 13]) (by simp [results, Tryz.results105, go_sem, cell_set_ite, ↓IntWalk.iteOmega, z0, z1, z2, e0, e1, e2]) rfl ⟨rfl, ?_⟩
      first
        | exact (((Hbw.out.setCell (by simp) _).setCell (by simp) _).setCell (by simp) _)
        | exact ((((ext_trans Hbw.out (ext_drewN _ _)).setCell (by simp) _).setCell (by simp) _).setCell (by simp) _)
    · have d3 : decide ((2147483647 : Int) - (S : Int) < (x2 : Int)) = true := decide_eq_true (by omega)
      clear b4
      go_quiet (fail)
      go_wp2_with (first
        | (go_at_call 84; refine (HSum.out _ (ext_trans Hbw.out (ext_drewN _ _))).mono ?_; rintro e w3 ⟨rfl, hB3⟩; obtain ⟨⟨e0, e1, e2⟩, hEB, hMG, hxs⟩ := HF.out w3 (ext_trans (ext_drewN _ _) hB3); obtain ⟨hbw, hbs, z0, z1, z2, v0, v1, v2⟩ := hEB; have mc0 := hMG.c0; have mc1 := hMG.c1; have mc2 := hMG.c2; have Hbw := Lib.hid hbw; clear hMG hbw hB3)
        | (go_at_call 31; refine (HCmp.out _ (by first | exact Hbw.out | exact ext_trans Hbw.out (ext_drewN _ _))).mono ?_; rintro e w4 ⟨rfl, rfl⟩))
      refine bodyPost_ret (v := .tuple #[.agg #[.int .u32 (x0 : Nat), .int .u32 (x1 : Nat), .int .u32 (x2 : Nat)], .int .i64 10]) (by simp [results, Tryz.results105, go_sem, cell_set_ite, ↓IntWalk.iteOmega, z0, z1, z2, e0, e1, e2]) rfl ⟨rfl, ?_⟩
      first
        | exact (((Hbw.out.setCell (by simp) _).setCell (by simp) _).setCell (by simp) _)
        | exact ((((ext_trans Hbw.out (ext_drewN _ _)).setCell (by simp) _).setCell (by simp) _).setCell (by simp) _)
    · have d3 : decide ((2147483647 : Int) - (S : Int) < (x2 : Int)) = false := decide_eq_false (by omega)
      clear b4
      go_quiet (fail)
      go_wp2_with (first
        | (go_at_call 84; refine (HSum.out _ (ext_trans Hbw.out (ext_drewN _ _))).mono ?_; rintro e w3 ⟨rfl, hB3⟩; obtain ⟨⟨e0, e1, e2⟩, hEB, hMG, hxs⟩ := HF.out w3 (ext_trans (ext_drewN _ _) hB3); obtain ⟨hbw, hbs, z0, z1, z2, v0, v1, v2⟩ := hEB; have mc0 := hMG.c0; have mc1 := hMG.c1; have mc2 := hMG.c2; have Hbw := Lib.hid hbw; clear hMG hbw hB3)
        | (go_at_call 31; refine (HCmp.out _ (by first | exact Hbw.out | exact ext_trans Hbw.out (ext_drewN _ _))).mono ?_; rintro e w4 ⟨rfl, rfl⟩))
      refine bodyPost_ret (v := .tuple #[.agg #[.int .u32 (x0 : Nat), .int .u32 (x1 : Nat), .int .u32 (x2 : Nat)], .int .i64 0]) (by simp [results, Tryz.results105, go_sem, cell_set_ite, ↓IntWalk.iteOmega, z0, z1, z2, e0, e1, e2]) rfl ⟨rfl, ?_⟩
      first
        | exact (((Hbw.out.setCell (by simp) _).setCell (by simp) _).setCell (by simp) _)
        | exact ((((ext_trans Hbw.out (ext_drewN _ _)).setCell (by simp) _).setCell (by simp) _).setCell (by simp) _)
end Go.Proofs.YtcklfffeimnfeaaGreat
