/- The methods of *kept.s, as a value of heap.Interface. -/
import Derived.Handy
import Derived.Test.YtggcmnjllkncaaaBestPush
namespace Go.Proofs.Ytggcmnjllkncaaa
set_option linter.unusedSimpArgs false
set_option linter.unusedVariables false
set_option maxRecDepth 100000
open Go.RowKit

set_option maxRecDepth 100000 in
theorem meth_less (wo : World) (t b n cap : Nat) (hc : wo.cell? ⟨t, 1, none⟩ = some (.slice (some ⟨b, 0, none⟩) n cap)) : (method 212 44 (.pointer (some ⟨t, 1, none⟩)) "Less").run Try.prog wo = .ok (80, .slice (some ⟨b, 0, none⟩) n cap) wo := by
  have e : (Array.find? (fun x => x.name == "Less") Try.t44.methods).map (fun m => (m.path, m.func)) = some (#[], some (80, false)) := by kernel_rfl
  obtain ⟨m, hm, hp⟩ := Option.map_eq_some_iff.1 e
  obtain ⟨hp1, hp2⟩ := Prod.mk.inj hp
  unfold method
  go_simp
  rw [show Sem.run Try.prog (follow [] 44 (Place.val (Value.pointer (some ⟨t, 1, none⟩)))) wo = .ok (44, Place.val (Value.pointer (some ⟨t, 1, none⟩))) wo from rfl]
  go_simp
  unfold receiverAt
  go_simp
  rw [show Sem.run Try.prog (Place.get 44 (Place.val (Value.pointer (some ⟨t, 1, none⟩)))) wo = .ok (Value.pointer (some ⟨t, 1, none⟩)) wo from rfl]
  go_simp
  rw [show Sem.run Try.prog (Builtin.ssaWrapNilChk_ #[44] 44 #[(Value.pointer (some ⟨t, 1, none⟩)), strVal "", strVal (("Less".splitOn ".").getLast?.getD "Less")]) wo = .ok (Value.pointer (some ⟨t, 1, none⟩)) wo from rfl]
  go_simp
  try rw [hc]
set_option maxRecDepth 100000 in
theorem meth_swap (wo : World) (t b n cap : Nat) (hc : wo.cell? ⟨t, 1, none⟩ = some (.slice (some ⟨b, 0, none⟩) n cap)) : (method 212 44 (.pointer (some ⟨t, 1, none⟩)) "Swap").run Try.prog wo = .ok (81, .slice (some ⟨b, 0, none⟩) n cap) wo := by
  have e : (Array.find? (fun x => x.name == "Swap") Try.t44.methods).map (fun m => (m.path, m.func)) = some (#[], some (81, false)) := by kernel_rfl
  obtain ⟨m, hm, hp⟩ := Option.map_eq_some_iff.1 e
  obtain ⟨hp1, hp2⟩ := Prod.mk.inj hp
  unfold method
  go_simp
  rw [show Sem.run Try.prog (follow [] 44 (Place.val (Value.pointer (some ⟨t, 1, none⟩)))) wo = .ok (44, Place.val (Value.pointer (some ⟨t, 1, none⟩))) wo from rfl]
  go_simp
  unfold receiverAt
  go_simp
  rw [show Sem.run Try.prog (Place.get 44 (Place.val (Value.pointer (some ⟨t, 1, none⟩)))) wo = .ok (Value.pointer (some ⟨t, 1, none⟩)) wo from rfl]
  go_simp
  rw [show Sem.run Try.prog (Builtin.ssaWrapNilChk_ #[44] 44 #[(Value.pointer (some ⟨t, 1, none⟩)), strVal "", strVal (("Swap".splitOn ".").getLast?.getD "Swap")]) wo = .ok (Value.pointer (some ⟨t, 1, none⟩)) wo from rfl]
  go_simp
  try rw [hc]
set_option maxRecDepth 100000 in
theorem meth_len (wo : World) (t b n cap : Nat) (hc : wo.cell? ⟨t, 1, none⟩ = some (.slice (some ⟨b, 0, none⟩) n cap)) : (method 212 44 (.pointer (some ⟨t, 1, none⟩)) "Len").run Try.prog wo = .ok (21, .slice (some ⟨b, 0, none⟩) n cap) wo := by
  have e : (Array.find? (fun x => x.name == "Len") Try.t44.methods).map (fun m => (m.path, m.func)) = some (#[], some (21, false)) := by kernel_rfl
  obtain ⟨m, hm, hp⟩ := Option.map_eq_some_iff.1 e
  obtain ⟨hp1, hp2⟩ := Prod.mk.inj hp
  unfold method
  go_simp
  rw [show Sem.run Try.prog (follow [] 44 (Place.val (Value.pointer (some ⟨t, 1, none⟩)))) wo = .ok (44, Place.val (Value.pointer (some ⟨t, 1, none⟩))) wo from rfl]
  go_simp
  unfold receiverAt
  go_simp
  rw [show Sem.run Try.prog (Place.get 44 (Place.val (Value.pointer (some ⟨t, 1, none⟩)))) wo = .ok (Value.pointer (some ⟨t, 1, none⟩)) wo from rfl]
  go_simp
  rw [show Sem.run Try.prog (Builtin.ssaWrapNilChk_ #[44] 44 #[(Value.pointer (some ⟨t, 1, none⟩)), strVal "", strVal (("Len".splitOn ".").getLast?.getD "Len")]) wo = .ok (Value.pointer (some ⟨t, 1, none⟩)) wo from rfl]
  go_simp
  try rw [hc]
set_option maxRecDepth 100000 in
theorem meth_push (wo : World) (t : Nat) : (method 212 44 (.pointer (some ⟨t, 1, none⟩)) "Push").run Try.prog wo = .ok (82, .pointer (some ⟨t, 1, none⟩)) wo := by
  have e : (Array.find? (fun x => x.name == "Push") Try.t44.methods).map (fun m => (m.path, m.func)) = some (#[], some (82, true)) := by kernel_rfl
  obtain ⟨m, hm, hp⟩ := Option.map_eq_some_iff.1 e
  obtain ⟨hp1, hp2⟩ := Prod.mk.inj hp
  unfold method
  go_simp
  rw [show Sem.run Try.prog (follow [] 44 (Place.val (Value.pointer (some ⟨t, 1, none⟩)))) wo = .ok (44, Place.val (Value.pointer (some ⟨t, 1, none⟩))) wo from rfl]
  go_simp
  unfold receiverAt
  go_simp
  try rfl
end Go.Proofs.Ytggcmnjllkncaaa
