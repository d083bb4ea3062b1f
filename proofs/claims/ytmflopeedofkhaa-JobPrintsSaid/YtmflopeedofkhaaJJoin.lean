/- strings.Join with a space; job.order. -/
import Derived.Test.YtmflopeedofkhaaJoinLay
import Derived.Test.YtmflopeedofkhaaJobTextP
import Derived.Test.YtmflopeedofkhaaByText
import Derived.Test.YtmflopeedofkhaaRetB
namespace Go.Proofs.Ytmflopeedofkhaa
set_option linter.unusedSimpArgs false
set_option linter.unusedVariables false
set_option maxRecDepth 100000
open Go.RowKit

def joinW : List W8 → W8
  | [] => []
  | x :: r => x ++ r.flatMap (fun y => 32 :: y)
theorem join_line (k : W8) {ws : List W8} (h : ws ≠ []) : k ++ [32] ++ joinW ws = lineB k ws := by
  cases ws with
  | nil => exact absurd rfl h
  | cons x r => simp [joinW, lineB]
theorem join_lib (ws : List W8) : Lib.join ((ws.map bs).map (·.data.toList)) (ByteArray.mk #[32]).data.toList = joinW ws := by
  have e : (ws.map bs).map (·.data.toList) = ws := by
    rw [List.map_map]
    conv => rhs; rw [← List.map_id ws]
    congr 1
  rw [e]
  cases ws with
  | nil => rfl
  | cons x r =>
    rw [Lib.join_cons]
    unfold Lib.joinTail
    show _ = x ++ r.flatMap (fun y => 32 :: y)
    rw [List.flatMap_def]
    rfl
theorem joinJ_any (ws : List W8) (hpos : 0 < ws.length) (hn : ws.length ≤ 1000) (hlen : (joinW ws).length ≤ 1000000) (w : World) (ao : Option Addr) (cap : Nat) (hcap : ws.length ≤ cap) (hrd : Rd w ao ws.length (strCells ws)) :
    Calls Try.prog 37 #[.slice ao ws.length cap, .string ⟨#[32]⟩] w (RetB (.string (bs (joinW ws))) w) := by
  obtain ⟨b, o, rfl, hb, hc⟩ := hrd.pos hpos
  have h := Any.strings_Join joinS joinX b o cap (ws.map bs) ⟨#[32]⟩ w (fun j x hx => by
    rw [List.getElem?_map] at hx
    have hj : j < ws.length := by
      rcases Nat.lt_or_ge j ws.length with h | h
      · exact h
      · rw [List.getElem?_eq_none h] at hx; cases hx
    rw [hc j hj, strCells, List.getElem?_map, List.getElem?_eq_getElem hj]
    rw [List.getElem?_eq_getElem hj] at hx
    cases hx
    rfl) hb (by rw [List.length_map]; omega) (by rw [List.length_map]; exact hcap) (by rw [join_lib]; omega)
  rw [join_lib, List.length_map] at h
  exact h
def ordV : Value := .agg #[.string (bs kWalk), .string (bs kSeed), .string (bs [108, 101, 110, 103, 116, 104]), .string (bs [119, 97, 108, 107, 115]), .string (bs [114, 101, 115, 116, 97, 114, 116]), .string (bs [98, 105, 97, 115]), .string (bs [116, 114, 105, 101, 115]), .string (bs [98, 101, 115, 116]), .string (bs [115, 104, 97, 114, 100]), .string (bs [114, 111, 111, 109]), .string (bs [112, 111, 111, 108]), .string (bs [115, 111, 114, 116])]
theorem order_any (w : World) : Calls Try.prog 36 #[] w (RetB ordV w) := by
  go_enter Try.func36, Try.ntmps36
  go_wp2_with fail
  refine bodyPost_ret (results_cell_row rfl _ _ w.heap.size 79 _ (0, 0) _ rfl (heap_alloc_new w _) Try.underlying79 rfl (by kernel_rfl)) rfl ⟨rfl, ext_alloc w _⟩
theorem idx_ord0 (W : World) : (Instr.index 79 ordV (.int .i64 ((0 : Nat) : Int))).run Try.prog W = .ok (.string (bs kWalk)) W := by kernel_rfl
theorem idx_ord1 (W : World) : (Instr.index 79 ordV (.int .i64 ((1 : Nat) : Int))).run Try.prog W = .ok (.string (bs kSeed)) W := by kernel_rfl
theorem idx_ord2 (W : World) : (Instr.index 79 ordV (.int .i64 ((2 : Nat) : Int))).run Try.prog W = .ok (.string (bs [108, 101, 110, 103, 116, 104])) W := by kernel_rfl
theorem idx_ord3 (W : World) : (Instr.index 79 ordV (.int .i64 ((3 : Nat) : Int))).run Try.prog W = .ok (.string (bs [119, 97, 108, 107, 115])) W := by kernel_rfl
theorem idx_ord4 (W : World) : (Instr.index 79 ordV (.int .i64 ((4 : Nat) : Int))).run Try.prog W = .ok (.string (bs [114, 101, 115, 116, 97, 114, 116])) W := by kernel_rfl
theorem idx_ord5 (W : World) : (Instr.index 79 ordV (.int .i64 ((5 : Nat) : Int))).run Try.prog W = .ok (.string (bs [98, 105, 97, 115])) W := by kernel_rfl
theorem idx_ord6 (W : World) : (Instr.index 79 ordV (.int .i64 ((6 : Nat) : Int))).run Try.prog W = .ok (.string (bs [116, 114, 105, 101, 115])) W := by kernel_rfl
theorem idx_ord7 (W : World) : (Instr.index 79 ordV (.int .i64 ((7 : Nat) : Int))).run Try.prog W = .ok (.string (bs [98, 101, 115, 116])) W := by kernel_rfl
theorem idx_ord8 (W : World) : (Instr.index 79 ordV (.int .i64 ((8 : Nat) : Int))).run Try.prog W = .ok (.string (bs [115, 104, 97, 114, 100])) W := by kernel_rfl
theorem idx_ord9 (W : World) : (Instr.index 79 ordV (.int .i64 ((9 : Nat) : Int))).run Try.prog W = .ok (.string (bs [114, 111, 111, 109])) W := by kernel_rfl
theorem idx_ord10 (W : World) : (Instr.index 79 ordV (.int .i64 ((10 : Nat) : Int))).run Try.prog W = .ok (.string (bs [112, 111, 111, 108])) W := by kernel_rfl
theorem idx_ord11 (W : World) : (Instr.index 79 ordV (.int .i64 ((11 : Nat) : Int))).run Try.prog W = .ok (.string (bs [115, 111, 114, 116])) W := by kernel_rfl
theorem idx_ord : ∀ {k : Nat}, k < 12 → ∀ W : World, (Instr.index 79 ordV (.int .i64 (k : Nat))).run Try.prog W = .ok (.string (bs ordK[k]!)) W
  | 0, _, W => idx_ord0 W
  | 1, _, W => idx_ord1 W
  | 2, _, W => idx_ord2 W
  | 3, _, W => idx_ord3 W
  | 4, _, W => idx_ord4 W
  | 5, _, W => idx_ord5 W
  | 6, _, W => idx_ord6 W
  | 7, _, W => idx_ord7 W
  | 8, _, W => idx_ord8 W
  | 9, _, W => idx_ord9 W
  | 10, _, W => idx_ord10 W
  | 11, _, W => idx_ord11 W
theorem ord_mem : ∀ {k : Nat}, k < 12 → ordK[k]! ∈ ordK := fun {k} h => by
  rw [getElem!_pos ordK k h]; exact List.getElem_mem _
end Go.Proofs.Ytmflopeedofkhaa
