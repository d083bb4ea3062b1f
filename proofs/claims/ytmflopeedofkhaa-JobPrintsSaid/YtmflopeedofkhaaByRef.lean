/- Texts merged into one: JRef1, JRefWants, JRefSet, JRefTwo, JRefOne, JRefSeed, JRefSrc, JRefLine. -/
import Derived.Test.YtmflopeedofkhaaByJobP
import Derived.Test.YtmflopeedofkhaaByText
import Derived.Test.YtmflopeedofkhaaRetB
import Derived.Test.YtmflopeedofkhaaByJobM
import Derived.Test.YtmflopeedofkhaaByRow
namespace Go.Proofs.Ytmflopeedofkhaa
set_option linter.unusedSimpArgs false
set_option linter.unusedVariables false
set_option maxRecDepth 100000
open Go.RowKit

set_option maxHeartbeats 1600000 in
theorem rnumber19_any (s : W8) (least most : Nat) (hl : s.length ≤ 1073741824) (hmost : most < 18446744073709551616) (w : World) :
    Calls Try.prog 60 #[.string (bs s), .int .u64 (least : Nat), .int .u64 (most : Nat)] w fun e w' => e = numOut (numL s least most) ∧ w' = w := by
  have HN := Lib.hid (fun W => rnum_any s most hl hmost W)
  unfold numOut at HN ⊢
  have hlt := Lib.hid (show (num s most).1 < 18446744073709551616 by
    unfold num
    split
    · simp
    split
    · simp
    · simp only; omega)
  unfold numL
  generalize num s most = r at *
  obtain ⟨n, e⟩ := r
  simp only at HN hlt ⊢
  by_cases he : e = 0
  · have e1 : ((e : Int) == 0) = true := by simp; omega
    have e1' : (e == 0) = true := by simp; omega
    by_cases hn : n < least
    · have d : decide ((n : Int) < (least : Int)) = true := decide_eq_true (by omega)
      have d' : decide (n < least) = true := decide_eq_true hn
      rw [if_pos ⟨he, hn⟩]
      clear hn he
      go_enter Try.func60, Try.ntmps60
      go_wp2_with (go_at_call 78; (with_reducible refine (HN.out _).mono ?_); rintro e w1 ⟨rfl, rfl⟩)
      go_ret2
      exact ⟨rfl, rfl⟩
    · have d : decide ((n : Int) < (least : Int)) = false := decide_eq_false (by omega)
      have d' : decide (n < least) = false := decide_eq_false hn
      rw [if_neg (fun h => hn h.2)]
      clear hn he
      go_enter Try.func60, Try.ntmps60
      go_wp2_with (go_at_call 78; (with_reducible refine (HN.out _).mono ?_); rintro e w1 ⟨rfl, rfl⟩)
      go_ret2
      exact ⟨rfl, rfl⟩
  · have e1 : ((e : Int) == 0) = false := beq_eq_false_iff_ne.2 (by omega)
    have e1' : (e == 0) = false := beq_eq_false_iff_ne.2 he
    rw [if_neg (fun h => he h.1)]
    clear he
    go_enter Try.func60, Try.ntmps60
    go_wp2_with (go_at_call 78; (with_reducible refine (HN.out _).mono ?_); rintro e w1 ⟨rfl, rfl⟩)
    go_ret2
    exact ⟨rfl, rfl⟩
end Go.Proofs.Ytmflopeedofkhaa

namespace Go.Proofs.Ytmflopeedofkhaa
set_option linter.unusedSimpArgs false
set_option linter.unusedVariables false
set_option maxRecDepth 100000
open Go.RowKit

/-- all words of a job's text -/
def keysW : List W8 := [[119, 97, 108, 107], [115, 101, 101, 100], [108, 101, 110, 103, 116, 104], [119, 97, 108, 107, 115], [114, 101, 115, 116, 97, 114, 116], [98, 105, 97, 115], [116, 114, 105, 101, 115], [98, 101, 115, 116], [115, 104, 97, 114, 100], [114, 111, 111, 109], [112, 111, 111, 108], [115, 111, 114, 116], [115, 111, 117, 114, 99, 101]]
theorem keysW_cases {k : W8} (h : k ∈ keysW) : k = [119, 97, 108, 107] ∨ k = [115, 101, 101, 100] ∨ k = [108, 101, 110, 103, 116, 104] ∨ k = [119, 97, 108, 107, 115] ∨ k = [114, 101, 115, 116, 97, 114, 116] ∨ k = [98, 105, 97, 115] ∨ k = [116, 114, 105, 101, 115] ∨ k = [98, 101, 115, 116] ∨ k = [115, 104, 97, 114, 100] ∨ k = [114, 111, 111, 109] ∨ k = [112, 111, 111, 108] ∨ k = [115, 111, 114, 116] ∨ k = [115, 111, 117, 114, 99, 101] := by
  simpa [keysW] using h
theorem wants_none {k : W8} (h : k ∉ keysW) : wantsJ k = 0 := by
  have h0 : ∀ x ∈ keysW, k ≠ x := fun x hx e => h (e ▸ hx)
  have he : entryJ k = [] := by
    rcases entry_cases k with h1 | ⟨e, he, h2, _⟩
    · exact h1
    · exfalso
      refine h0 e.1 ?_ h2.symm
      have hall : ∀ e ∈ numTab, e.1 ∈ keysW := by decide
      exact hall e he
  unfold wantsJ
  rw [if_neg (by rintro (e | e | e); exact h0 _ (by decide) e; exact h0 _ (by decide) e; exact h0 _ (by decide) e), he]
  rfl
set_option maxHeartbeats 6400000 in
theorem rwants19_any (k : W8) (w : World) : Calls Try.prog 48 #[.string (bs k)] w fun e w' => e = .returned (.int .i64 (wantsJ k : Nat)) ∧ w' = w := by
  by_cases h : k ∈ keysW
  · rcases keysW_cases h with e | e | e | e | e | e | e | e | e | e | e | e | e
    · have hv : wantsJ k = 1 := by rw [e]; decide
      have f0 : (k == ([119, 97, 108, 107] : W8)) = true := by rw [e]; decide
      have f1 : (k == ([115, 101, 101, 100] : W8)) = false := by rw [e]; decide
      have f2 : (k == ([108, 101, 110, 103, 116, 104] : W8)) = false := by rw [e]; decide
      have f3 : (k == ([119, 97, 108, 107, 115] : W8)) = false := by rw [e]; decide
      have f4 : (k == ([114, 101, 115, 116, 97, 114, 116] : W8)) = false := by rw [e]; decide
      have f5 : (k == ([98, 105, 97, 115] : W8)) = false := by rw [e]; decide
      have f6 : (k == ([116, 114, 105, 101, 115] : W8)) = false := by rw [e]; decide
      have f7 : (k == ([98, 101, 115, 116] : W8)) = false := by rw [e]; decide
      have f8 : (k == ([115, 104, 97, 114, 100] : W8)) = false := by rw [e]; decide
      have f9 : (k == ([114, 111, 111, 109] : W8)) = false := by rw [e]; decide
      have f10 : (k == ([112, 111, 111, 108] : W8)) = false := by rw [e]; decide
      have f11 : (k == ([115, 111, 114, 116] : W8)) = false := by rw [e]; decide
      have f12 : (k == ([115, 111, 117, 114, 99, 101] : W8)) = false := by rw [e]; decide
      rw [hv]
      clear e h hv
      go_enter Try.func48, Try.ntmps48
      go_wp2_with fail
      go_ret
      exact ⟨rfl, rfl⟩
    · have hv : wantsJ k = 1 := by rw [e]; decide
      have f0 : (k == ([119, 97, 108, 107] : W8)) = false := by rw [e]; decide
      have f1 : (k == ([115, 101, 101, 100] : W8)) = true := by rw [e]; decide
      have f2 : (k == ([108, 101, 110, 103, 116, 104] : W8)) = false := by rw [e]; decide
      have f3 : (k == ([119, 97, 108, 107, 115] : W8)) = false := by rw [e]; decide
      have f4 : (k == ([114, 101, 115, 116, 97, 114, 116] : W8)) = false := by rw [e]; decide
      have f5 : (k == ([98, 105, 97, 115] : W8)) = false := by rw [e]; decide
      have f6 : (k == ([116, 114, 105, 101, 115] : W8)) = false := by rw [e]; decide
      have f7 : (k == ([98, 101, 115, 116] : W8)) = false := by rw [e]; decide
      have f8 : (k == ([115, 104, 97, 114, 100] : W8)) = false := by rw [e]; decide
      have f9 : (k == ([114, 111, 111, 109] : W8)) = false := by rw [e]; decide
      have f10 : (k == ([112, 111, 111, 108] : W8)) = false := by rw [e]; decide
      have f11 : (k == ([115, 111, 114, 116] : W8)) = false := by rw [e]; decide
      have f12 : (k == ([115, 111, 117, 114, 99, 101] : W8)) = false := by rw [e]; decide
      rw [hv]
      clear e h hv
      go_enter Try.func48, Try.ntmps48
      go_wp2_with fail
      go_ret
      exact ⟨rfl, rfl⟩
    · have hv : wantsJ k = 1 := by rw [e]; decide
      have f0 : (k == ([119, 97, 108, 107] : W8)) = false := by rw [e]; decide
      have f1 : (k == ([115, 101, 101, 100] : W8)) = false := by rw [e]; decide
      have f2 : (k == ([108, 101, 110, 103, 116, 104] : W8)) = true := by rw [e]; decide
      have f3 : (k == ([119, 97, 108, 107, 115] : W8)) = false := by rw [e]; decide
      have f4 : (k == ([114, 101, 115, 116, 97, 114, 116] : W8)) = false := by rw [e]; decide
      have f5 : (k == ([98, 105, 97, 115] : W8)) = false := by rw [e]; decide
      have f6 : (k == ([116, 114, 105, 101, 115] : W8)) = false := by rw [e]; decide
      have f7 : (k == ([98, 101, 115, 116] : W8)) = false := by rw [e]; decide
      have f8 : (k == ([115, 104, 97, 114, 100] : W8)) = false := by rw [e]; decide
      have f9 : (k == ([114, 111, 111, 109] : W8)) = false := by rw [e]; decide
      have f10 : (k == ([112, 111, 111, 108] : W8)) = false := by rw [e]; decide
      have f11 : (k == ([115, 111, 114, 116] : W8)) = false := by rw [e]; decide
      have f12 : (k == ([115, 111, 117, 114, 99, 101] : W8)) = false := by rw [e]; decide
      rw [hv]
      clear e h hv
      go_enter Try.func48, Try.ntmps48
      go_wp2_with fail
      go_ret
      exact ⟨rfl, rfl⟩
    · have hv : wantsJ k = 1 := by rw [e]; decide
      have f0 : (k == ([119, 97, 108, 107] : W8)) = false := by rw [e]; decide
      have f1 : (k == ([115, 101, 101, 100] : W8)) = false := by rw [e]; decide
      have f2 : (k == ([108, 101, 110, 103, 116, 104] : W8)) = false := by rw [e]; decide
      have f3 : (k == ([119, 97, 108, 107, 115] : W8)) = true := by rw [e]; decide
      have f4 : (k == ([114, 101, 115, 116, 97, 114, 116] : W8)) = false := by rw [e]; decide
      have f5 : (k == ([98, 105, 97, 115] : W8)) = false := by rw [e]; decide
      have f6 : (k == ([116, 114, 105, 101, 115] : W8)) = false := by rw [e]; decide
      have f7 : (k == ([98, 101, 115, 116] : W8)) = false := by rw [e]; decide
      have f8 : (k == ([115, 104, 97, 114, 100] : W8)) = false := by rw [e]; decide
      have f9 : (k == ([114, 111, 111, 109] : W8)) = false := by rw [e]; decide
      have f10 : (k == ([112, 111, 111, 108] : W8)) = false := by rw [e]; decide
      have f11 : (k == ([115, 111, 114, 116] : W8)) = false := by rw [e]; decide
      have f12 : (k == ([115, 111, 117, 114, 99, 101] : W8)) = false := by rw [e]; decide
      rw [hv]
      clear e h hv
      go_enter Try.func48, Try.ntmps48
      go_wp2_with fail
      go_ret
      exact ⟨rfl, rfl⟩
    · have hv : wantsJ k = 2 := by rw [e]; decide
      have f0 : (k == ([119, 97, 108, 107] : W8)) = false := by rw [e]; decide
      have f1 : (k == ([115, 101, 101, 100] : W8)) = false := by rw [e]; decide
      have f2 : (k == ([108, 101, 110, 103, 116, 104] : W8)) = false := by rw [e]; decide
      have f3 : (k == ([119, 97, 108, 107, 115] : W8)) = false := by rw [e]; decide
      have f4 : (k == ([114, 101, 115, 116, 97, 114, 116] : W8)) = true := by rw [e]; decide
      have f5 : (k == ([98, 105, 97, 115] : W8)) = false := by rw [e]; decide
      have f6 : (k == ([116, 114, 105, 101, 115] : W8)) = false := by rw [e]; decide
      have f7 : (k == ([98, 101, 115, 116] : W8)) = false := by rw [e]; decide
      have f8 : (k == ([115, 104, 97, 114, 100] : W8)) = false := by rw [e]; decide
      have f9 : (k == ([114, 111, 111, 109] : W8)) = false := by rw [e]; decide
      have f10 : (k == ([112, 111, 111, 108] : W8)) = false := by rw [e]; decide
      have f11 : (k == ([115, 111, 114, 116] : W8)) = false := by rw [e]; decide
      have f12 : (k == ([115, 111, 117, 114, 99, 101] : W8)) = false := by rw [e]; decide
      rw [hv]
      clear e h hv
      go_enter Try.func48, Try.ntmps48
      go_wp2_with fail
      go_ret
      exact ⟨rfl, rfl⟩
    · have hv : wantsJ k = 2 := by rw [e]; decide
      have f0 : (k == ([119, 97, 108, 107] : W8)) = false := by rw [e]; decide
      have f1 : (k == ([115, 101, 101, 100] : W8)) = false := by rw [e]; decide
      have f2 : (k == ([108, 101, 110, 103, 116, 104] : W8)) = false := by rw [e]; decide
      have f3 : (k == ([119, 97, 108, 107, 115] : W8)) = false := by rw [e]; decide
      have f4 : (k == ([114, 101, 115, 116, 97, 114, 116] : W8)) = false := by rw [e]; decide
      have f5 : (k == ([98, 105, 97, 115] : W8)) = true := by rw [e]; decide
      have f6 : (k == ([116, 114, 105, 101, 115] : W8)) = false := by rw [e]; decide
      have f7 : (k == ([98, 101, 115, 116] : W8)) = false := by rw [e]; decide
      have f8 : (k == ([115, 104, 97, 114, 100] : W8)) = false := by rw [e]; decide
      have f9 : (k == ([114, 111, 111, 109] : W8)) = false := by rw [e]; decide
      have f10 : (k == ([112, 111, 111, 108] : W8)) = false := by rw [e]; decide
      have f11 : (k == ([115, 111, 114, 116] : W8)) = false := by rw [e]; decide
      have f12 : (k == ([115, 111, 117, 114, 99, 101] : W8)) = false := by rw [e]; decide
      rw [hv]
      clear e h hv
      go_enter Try.func48, Try.ntmps48
      go_wp2_with fail
      go_ret
      exact ⟨rfl, rfl⟩
    · have hv : wantsJ k = 1 := by rw [e]; decide
      have f0 : (k == ([119, 97, 108, 107] : W8)) = false := by rw [e]; decide
      have f1 : (k == ([115, 101, 101, 100] : W8)) = false := by rw [e]; decide
      have f2 : (k == ([108, 101, 110, 103, 116, 104] : W8)) = false := by rw [e]; decide
      have f3 : (k == ([119, 97, 108, 107, 115] : W8)) = false := by rw [e]; decide
      have f4 : (k == ([114, 101, 115, 116, 97, 114, 116] : W8)) = false := by rw [e]; decide
      have f5 : (k == ([98, 105, 97, 115] : W8)) = false := by rw [e]; decide
      have f6 : (k == ([116, 114, 105, 101, 115] : W8)) = true := by rw [e]; decide
      have f7 : (k == ([98, 101, 115, 116] : W8)) = false := by rw [e]; decide
      have f8 : (k == ([115, 104, 97, 114, 100] : W8)) = false := by rw [e]; decide
      have f9 : (k == ([114, 111, 111, 109] : W8)) = false := by rw [e]; decide
      have f10 : (k == ([112, 111, 111, 108] : W8)) = false := by rw [e]; decide
      have f11 : (k == ([115, 111, 114, 116] : W8)) = false := by rw [e]; decide
      have f12 : (k == ([115, 111, 117, 114, 99, 101] : W8)) = false := by rw [e]; decide
      rw [hv]
      clear e h hv
      go_enter Try.func48, Try.ntmps48
      go_wp2_with fail
      go_ret
      exact ⟨rfl, rfl⟩
    · have hv : wantsJ k = 1 := by rw [e]; decide
      have f0 : (k == ([119, 97, 108, 107] : W8)) = false := by rw [e]; decide
      have f1 : (k == ([115, 101, 101, 100] : W8)) = false := by rw [e]; decide
      have f2 : (k == ([108, 101, 110, 103, 116, 104] : W8)) = false := by rw [e]; decide
      have f3 : (k == ([119, 97, 108, 107, 115] : W8)) = false := by rw [e]; decide
      have f4 : (k == ([114, 101, 115, 116, 97, 114, 116] : W8)) = false := by rw [e]; decide
      have f5 : (k == ([98, 105, 97, 115] : W8)) = false := by rw [e]; decide
      have f6 : (k == ([116, 114, 105, 101, 115] : W8)) = false := by rw [e]; decide
      have f7 : (k == ([98, 101, 115, 116] : W8)) = true := by rw [e]; decide
      have f8 : (k == ([115, 104, 97, 114, 100] : W8)) = false := by rw [e]; decide
      have f9 : (k == ([114, 111, 111, 109] : W8)) = false := by rw [e]; decide
      have f10 : (k == ([112, 111, 111, 108] : W8)) = false := by rw [e]; decide
      have f11 : (k == ([115, 111, 114, 116] : W8)) = false := by rw [e]; decide
      have f12 : (k == ([115, 111, 117, 114, 99, 101] : W8)) = false := by rw [e]; decide
      rw [hv]
      clear e h hv
      go_enter Try.func48, Try.ntmps48
      go_wp2_with fail
      go_ret
      exact ⟨rfl, rfl⟩
    · have hv : wantsJ k = 1 := by rw [e]; decide
      have f0 : (k == ([119, 97, 108, 107] : W8)) = false := by rw [e]; decide
      have f1 : (k == ([115, 101, 101, 100] : W8)) = false := by rw [e]; decide
      have f2 : (k == ([108, 101, 110, 103, 116, 104] : W8)) = false := by rw [e]; decide
      have f3 : (k == ([119, 97, 108, 107, 115] : W8)) = false := by rw [e]; decide
      have f4 : (k == ([114, 101, 115, 116, 97, 114, 116] : W8)) = false := by rw [e]; decide
      have f5 : (k == ([98, 105, 97, 115] : W8)) = false := by rw [e]; decide
      have f6 : (k == ([116, 114, 105, 101, 115] : W8)) = false := by rw [e]; decide
      have f7 : (k == ([98, 101, 115, 116] : W8)) = false := by rw [e]; decide
      have f8 : (k == ([115, 104, 97, 114, 100] : W8)) = true := by rw [e]; decide
      have f9 : (k == ([114, 111, 111, 109] : W8)) = false := by rw [e]; decide
      have f10 : (k == ([112, 111, 111, 108] : W8)) = false := by rw [e]; decide
      have f11 : (k == ([115, 111, 114, 116] : W8)) = false := by rw [e]; decide
      have f12 : (k == ([115, 111, 117, 114, 99, 101] : W8)) = false := by rw [e]; decide
      rw [hv]
      clear e h hv
      go_enter Try.func48, Try.ntmps48
      go_wp2_with fail
      go_ret
      exact ⟨rfl, rfl⟩
    · have hv : wantsJ k = 1 := by rw [e]; decide
      have f0 : (k == ([119, 97, 108, 107] : W8)) = false := by rw [e]; decide
      have f1 : (k == ([115, 101, 101, 100] : W8)) = false := by rw [e]; decide
      have f2 : (k == ([108, 101, 110, 103, 116, 104] : W8)) = false := by rw [e]; decide
      have f3 : (k == ([119, 97, 108, 107, 115] : W8)) = false := by rw [e]; decide
      have f4 : (k == ([114, 101, 115, 116, 97, 114, 116] : W8)) = false := by rw [e]; decide
      have f5 : (k == ([98, 105, 97, 115] : W8)) = false := by rw [e]; decide
      have f6 : (k == ([116, 114, 105, 101, 115] : W8)) = false := by rw [e]; decide
      have f7 : (k == ([98, 101, 115, 116] : W8)) = false := by rw [e]; decide
      have f8 : (k == ([115, 104, 97, 114, 100] : W8)) = false := by rw [e]; decide
      have f9 : (k == ([114, 111, 111, 109] : W8)) = true := by rw [e]; decide
      have f10 : (k == ([112, 111, 111, 108] : W8)) = false := by rw [e]; decide
      have f11 : (k == ([115, 111, 114, 116] : W8)) = false := by rw [e]; decide
      have f12 : (k == ([115, 111, 117, 114, 99, 101] : W8)) = false := by rw [e]; decide
      rw [hv]
      clear e h hv
      go_enter Try.func48, Try.ntmps48
      go_wp2_with fail
      go_ret
      exact ⟨rfl, rfl⟩
    · have hv : wantsJ k = 1 := by rw [e]; decide
      have f0 : (k == ([119, 97, 108, 107] : W8)) = false := by rw [e]; decide
      have f1 : (k == ([115, 101, 101, 100] : W8)) = false := by rw [e]; decide
      have f2 : (k == ([108, 101, 110, 103, 116, 104] : W8)) = false := by rw [e]; decide
      have f3 : (k == ([119, 97, 108, 107, 115] : W8)) = false := by rw [e]; decide
      have f4 : (k == ([114, 101, 115, 116, 97, 114, 116] : W8)) = false := by rw [e]; decide
      have f5 : (k == ([98, 105, 97, 115] : W8)) = false := by rw [e]; decide
      have f6 : (k == ([116, 114, 105, 101, 115] : W8)) = false := by rw [e]; decide
      have f7 : (k == ([98, 101, 115, 116] : W8)) = false := by rw [e]; decide
      have f8 : (k == ([115, 104, 97, 114, 100] : W8)) = false := by rw [e]; decide
      have f9 : (k == ([114, 111, 111, 109] : W8)) = false := by rw [e]; decide
      have f10 : (k == ([112, 111, 111, 108] : W8)) = true := by rw [e]; decide
      have f11 : (k == ([115, 111, 114, 116] : W8)) = false := by rw [e]; decide
      have f12 : (k == ([115, 111, 117, 114, 99, 101] : W8)) = false := by rw [e]; decide
      rw [hv]
      clear e h hv
      go_enter Try.func48, Try.ntmps48
      go_wp2_with fail
      go_ret
      exact ⟨rfl, rfl⟩
    · have hv : wantsJ k = 1 := by rw [e]; decide
      have f0 : (k == ([119, 97, 108, 107] : W8)) = false := by rw [e]; decide
      have f1 : (k == ([115, 101, 101, 100] : W8)) = false := by rw [e]; decide
      have f2 : (k == ([108, 101, 110, 103, 116, 104] : W8)) = false := by rw [e]; decide
      have f3 : (k == ([119, 97, 108, 107, 115] : W8)) = false := by rw [e]; decide
      have f4 : (k == ([114, 101, 115, 116, 97, 114, 116] : W8)) = false := by rw [e]; decide
      have f5 : (k == ([98, 105, 97, 115] : W8)) = false := by rw [e]; decide
      have f6 : (k == ([116, 114, 105, 101, 115] : W8)) = false := by rw [e]; decide
      have f7 : (k == ([98, 101, 115, 116] : W8)) = false := by rw [e]; decide
      have f8 : (k == ([115, 104, 97, 114, 100] : W8)) = false := by rw [e]; decide
      have f9 : (k == ([114, 111, 111, 109] : W8)) = false := by rw [e]; decide
      have f10 : (k == ([112, 111, 111, 108] : W8)) = false := by rw [e]; decide
      have f11 : (k == ([115, 111, 114, 116] : W8)) = true := by rw [e]; decide
      have f12 : (k == ([115, 111, 117, 114, 99, 101] : W8)) = false := by rw [e]; decide
      rw [hv]
      clear e h hv
      go_enter Try.func48, Try.ntmps48
      go_wp2_with fail
      go_ret
      exact ⟨rfl, rfl⟩
    · have hv : wantsJ k = 1 := by rw [e]; decide
      have f0 : (k == ([119, 97, 108, 107] : W8)) = false := by rw [e]; decide
      have f1 : (k == ([115, 101, 101, 100] : W8)) = false := by rw [e]; decide
      have f2 : (k == ([108, 101, 110, 103, 116, 104] : W8)) = false := by rw [e]; decide
      have f3 : (k == ([119, 97, 108, 107, 115] : W8)) = false := by rw [e]; decide
      have f4 : (k == ([114, 101, 115, 116, 97, 114, 116] : W8)) = false := by rw [e]; decide
      have f5 : (k == ([98, 105, 97, 115] : W8)) = false := by rw [e]; decide
      have f6 : (k == ([116, 114, 105, 101, 115] : W8)) = false := by rw [e]; decide
      have f7 : (k == ([98, 101, 115, 116] : W8)) = false := by rw [e]; decide
      have f8 : (k == ([115, 104, 97, 114, 100] : W8)) = false := by rw [e]; decide
      have f9 : (k == ([114, 111, 111, 109] : W8)) = false := by rw [e]; decide
      have f10 : (k == ([112, 111, 111, 108] : W8)) = false := by rw [e]; decide
      have f11 : (k == ([115, 111, 114, 116] : W8)) = false := by rw [e]; decide
      have f12 : (k == ([115, 111, 117, 114, 99, 101] : W8)) = true := by rw [e]; decide
      rw [hv]
      clear e h hv
      go_enter Try.func48, Try.ntmps48
      go_wp2_with fail
      go_ret
      exact ⟨rfl, rfl⟩
  · have hv : wantsJ k = 0 := wants_none h
    have f0 : (k == ([119, 97, 108, 107] : W8)) = false := beq_eq_false_iff_ne.2 (fun e => h (e ▸ (by decide : ([119, 97, 108, 107] : W8) ∈ keysW)))
    have f1 : (k == ([115, 101, 101, 100] : W8)) = false := beq_eq_false_iff_ne.2 (fun e => h (e ▸ (by decide : ([115, 101, 101, 100] : W8) ∈ keysW)))
    have f2 : (k == ([108, 101, 110, 103, 116, 104] : W8)) = false := beq_eq_false_iff_ne.2 (fun e => h (e ▸ (by decide : ([108, 101, 110, 103, 116, 104] : W8) ∈ keysW)))
    have f3 : (k == ([119, 97, 108, 107, 115] : W8)) = false := beq_eq_false_iff_ne.2 (fun e => h (e ▸ (by decide : ([119, 97, 108, 107, 115] : W8) ∈ keysW)))
    have f4 : (k == ([114, 101, 115, 116, 97, 114, 116] : W8)) = false := beq_eq_false_iff_ne.2 (fun e => h (e ▸ (by decide : ([114, 101, 115, 116, 97, 114, 116] : W8) ∈ keysW)))
    have f5 : (k == ([98, 105, 97, 115] : W8)) = false := beq_eq_false_iff_ne.2 (fun e => h (e ▸ (by decide : ([98, 105, 97, 115] : W8) ∈ keysW)))
    have f6 : (k == ([116, 114, 105, 101, 115] : W8)) = false := beq_eq_false_iff_ne.2 (fun e => h (e ▸ (by decide : ([116, 114, 105, 101, 115] : W8) ∈ keysW)))
    have f7 : (k == ([98, 101, 115, 116] : W8)) = false := beq_eq_false_iff_ne.2 (fun e => h (e ▸ (by decide : ([98, 101, 115, 116] : W8) ∈ keysW)))
    have f8 : (k == ([115, 104, 97, 114, 100] : W8)) = false := beq_eq_false_iff_ne.2 (fun e => h (e ▸ (by decide : ([115, 104, 97, 114, 100] : W8) ∈ keysW)))
    have f9 : (k == ([114, 111, 111, 109] : W8)) = false := beq_eq_false_iff_ne.2 (fun e => h (e ▸ (by decide : ([114, 111, 111, 109] : W8) ∈ keysW)))
    have f10 : (k == ([112, 111, 111, 108] : W8)) = false := beq_eq_false_iff_ne.2 (fun e => h (e ▸ (by decide : ([112, 111, 111, 108] : W8) ∈ keysW)))
    have f11 : (k == ([115, 111, 114, 116] : W8)) = false := beq_eq_false_iff_ne.2 (fun e => h (e ▸ (by decide : ([115, 111, 114, 116] : W8) ∈ keysW)))
    have f12 : (k == ([115, 111, 117, 114, 99, 101] : W8)) = false := beq_eq_false_iff_ne.2 (fun e => h (e ▸ (by decide : ([115, 111, 117, 114, 99, 101] : W8) ∈ keysW)))
    rw [hv]
    clear h hv
    go_enter Try.func48, Try.ntmps48
    go_wp2_with fail
    go_ret
    exact ⟨rfl, rfl⟩
end Go.Proofs.Ytmflopeedofkhaa

namespace Go.Proofs.Ytmflopeedofkhaa
set_option linter.unusedSimpArgs false
set_option linter.unusedVariables false
set_option maxRecDepth 100000
open Go.RowKit

theorem row_set19 {w : World} {r : Nat} {cs : Array Value} {t : TypeId} (h : w.heap[r]? = some (.cells cs t (0, 0))) (i : Nat) (v : Value) : (w.setCell ⟨r, i, none⟩ v).heap[r]? = some (.cells (cs.setIfInBounds i v) t (0, 0)) := by
  have h1 := heap_setCells_in r t (0, 0) [v] i w cs h
  exact h1
def numCells : List Nat := [2, 3, 5, 6, 7, 8, 9, 10, 11, 12, 13, 14]
theorem jobCs_set {j : JobD} {so : Option Addr} {sc c : Nat} (hc : c ∈ numCells) (n : Nat) : (jobCs j so sc).setIfInBounds c (.int .u32 (n : Nat)) = jobCs (setC j c n) so sc := by
  simp only [numCells, List.mem_cons, List.not_mem_nil, or_false] at hc
  rcases hc with rfl | rfl | rfl | rfl | rfl | rfl | rfl | rfl | rfl | rfl | rfl | rfl <;> simp [jobCs, setC]
theorem jobCs_at {j : JobD} {so : Option Addr} {sc c : Nat} (hc : c ∈ numCells) : (jobCs j so sc)[c]? = some (.int .u32 (jobC j c : Nat)) := by
  simp only [numCells, List.mem_cons, List.not_mem_nil, or_false] at hc
  rcases hc with rfl | rfl | rfl | rfl | rfl | rfl | rfl | rfl | rfl | rfl | rfl | rfl <;> rfl
/-- a world whose row at r is a job's -/
theorem row_num {w : World} {r : Nat} {j : JobD} {so : Option Addr} {sc c : Nat} {t : TypeId} (h : w.heap[r]? = some (.cells (jobCs j so sc) t (0, 0))) (hc : c ∈ numCells) (n : Nat) :
    (w.setCell ⟨r, c, none⟩ (.int .u32 (n : Nat))).heap[r]? = some (.cells (jobCs (setC j c n) so sc) t (0, 0)) := by
  rw [← jobCs_set hc]; exact row_set19 h c _
theorem row_other {w : World} {r k i : Nat} (v : Value) (h : k ≠ r) : (w.setCell ⟨r, i, none⟩ v).heap[k]? = w.heap[k]? := Below.heap_setCell _ _ _ _ h
end Go.Proofs.Ytmflopeedofkhaa

namespace Go.Proofs.Ytmflopeedofkhaa
set_option linter.unusedSimpArgs false
set_option linter.unusedVariables false
set_option maxRecDepth 100000
open Go.RowKit

def zeroCs : Array Value := #[.int .u8 0, .int .u64 0, .int .u32 0, .int .u32 0, .slice none 0 0, .int .u32 0, .int .u32 0, .int .u32 0, .int .u32 0, .int .u32 0, .int .u32 0, .int .u32 0, .int .u32 0, .int .u32 0, .int .u32 0]
/-- what a line's reader hands back -/
def LineRet (so : Option Addr) (l : List Nat) (r : JobD × Nat) (w : World) (e : Ending) (w' : World) : Prop :=
  ∃ (x : JobD) (so' : Option Addr) (sc' : Nat), e = .returned (.tuple #[.agg (jobCs x so' sc'), .int .i64 (r.2 : Nat)]) ∧ (r.2 = 0 → x = r.1 ∧ Rd w' so' x.src.length (u32s x.src) ∧ ((so' = so ∧ x.src = l) ∨ ∀ p, so' = some p → w.heap.size ≤ p.block)) ∧ Below w.heap.size w w'
theorem jb_info19 (j : JobD) (so : Option Addr) (sc : Nat) : (Try.prog.info? 30).map (·.size) = some (jobCs j so sc).size := by kernel_rfl
theorem jb_one19 (j : JobD) (so : Option Addr) (sc : Nat) : (jobCs j so sc).all (·.oneCell') = true := by simp [jobCs, Value.oneCell']
theorem num_lt {w : W8} {most : Nat} : (num w most).1 ≤ most := by
  unfold num
  split
  · simp
  split
  · simp
  · simp only; omega
theorem numL_lt {w : W8} {least most : Nat} : (numL w least most).1 ≤ most := by
  unfold numL
  split
  · simp
  · exact num_lt
theorem numL_err {w : W8} {least most : Nat} : (numL w least most).2 ≤ 9 := by
  unfold numL num
  split
  · simp
  split
  · simp
  split <;> simp
set_option maxRecDepth 100000 in
set_option maxHeartbeats 6400000 in
theorem rtwo_bias (j : JobD) (hle : j.stop ≤ j.od) (so : Option Addr) (sc : Nat) (s t : W8) (hs : s.length ≤ 1073741824) (ht : t.length ≤ 1073741824) (w : World) (hsrc : Rd w so j.src.length (u32s j.src)) :
    Calls Try.prog 49 #[.agg (jobCs j so sc), .string (bs [98, 105, 97, 115]), .string (bs s), .string (bs t)] w (LineRet so j.src (numsJ j [98, 105, 97, 115] [s, t]) w) := by
  have HNs := Lib.hid (fun W => (show Calls Try.prog 60 #[.string (bs s), .int .u64 1, .int .u64 65536] W fun e w' => e = numOut (numL s 1 65536) ∧ w' = W from rnumber19_any s 1 65536 hs (by omega) W))
  have HNt := Lib.hid (fun W => (show Calls Try.prog 60 #[.string (bs t), .int .u64 1, .int .u64 65536] W fun e w' => e = numOut (numL t 1 65536) ∧ w' = W from rnumber19_any t 1 65536 ht (by omega) W))
  have hv : numsJ j [98, 105, 97, 115] [s, t] = if (numL s 1 65536).2 ≠ 0 then (j, (numL s 1 65536).2) else if (numL t 1 65536).2 ≠ 0 then (setC j 7 (numL s 1 65536).1, (numL t 1 65536).2) else (setC (setC j 7 (numL s 1 65536).1) 8 (numL t 1 65536).1, 0) := by
    have he : entryJ [98, 105, 97, 115] = [(7, 1, 65536), (8, 1, 65536)] := by decide
    unfold numsJ
    rw [he]
    unfold takeC
    by_cases h1 : (numL s 1 65536).2 ≠ 0
    · simp only [if_pos h1]
    · simp only [if_neg h1]
      unfold takeC
      by_cases h2 : (numL t 1 65536).2 ≠ 0
      · simp only [if_pos h2]
      · simp only [if_neg h2]
        unfold takeC
        simp only [ne_eq, not_true, if_false]
        rw [if_neg (by show ¬ j.od < j.stop; omega)]
  have hb1 := numL_lt (w := s) (least := 1) (most := 65536)
  have hb2 := numL_lt (w := t) (least := 1) (most := 65536)
  rw [hv]
  clear hv
  unfold numOut at HNs HNt
  generalize numL s 1 65536 = r1 at *
  generalize numL t 1 65536 = r2 at *
  obtain ⟨n1, e1⟩ := r1
  obtain ⟨n2, e2⟩ := r2
  simp only at hb1 hb2 HNs HNt ⊢
  obtain ⟨W0, hW0⟩ : ∃ W0, (w.alloc (.cells (jobCs j so sc) 30)).alloc (.cells zeroCs 30) = W0 := ⟨_, rfl⟩
  have B0 := Lib.hid (show Below w.heap.size w W0 by rw [← hW0]; exact (ext_alloc w _).alloc (by simp) _)
  have S0 := Lib.hid (show W0.heap.size = w.heap.size + 2 by rw [← hW0]; simp)
  have R0 := Lib.hid (show W0.heap[w.heap.size]? = some (.cells (jobCs j so sc) 30 (0, 0)) by rw [← hW0]; exact heap_alloc2_old _ _ _)
  have Z0 := Lib.hid (show W0.heap[w.heap.size + 1]? = some (.cells zeroCs 30 (0, 0)) by rw [← hW0]; exact heap_alloc2_new _ _ _)
  have HIj := Lib.hid (jb_info19 j so sc)
  have H1j := Lib.hid (jb_one19 j so sc)
  have Hsrc := Lib.hid hsrc
  have HW0 := Lib.hid hW0
  unfold zeroCs at HW0
  clear hW0 hsrc
  have u1 : IntKind.u32.wrap (n1 : Int) = (n1 : Int) := IntWalk.u32_in _ (by omega)
  have u2 : IntKind.u32.wrap (n2 : Int) = (n2 : Int) := IntWalk.u32_in _ (by omega)
  by_cases h1 : e1 ≠ 0
  · have d1 : ((e1 : Int) != 0) = true := by simp; omega
    have d1' : (e1 != 0) = true := by simp; omega
    rw [if_pos h1]
    have H1 := Lib.hid h1
    clear HNt h1 hle
    obtain ⟨jc, hjc⟩ : ∃ jc, jobCs j so sc = jc := ⟨_, rfl⟩
    have Hjc := Lib.hid hjc
    rw [hjc] at R0 HIj H1j HW0
    have Hz := Lib.hid (show jc.size = zeroCs.size by rw [← hjc]; rfl)
    rw [hjc]
    clear hjc
    go_enter Try.func49, Try.ntmps49
    go_upto_region 1 with fail
    rw [HW0.out]
    go_wp2_with
    (first
          | (go_at_call 60; (with_reducible refine (HNs.out _).mono ?_); rintro e w1 ⟨rfl, rfl⟩)
          | (go_at_call 60; (with_reducible refine (HNt.out _).mono ?_); rintro e w1 ⟨rfl, rfl⟩)
          | (refine wpList_load_row rfl _ _ rfl w.heap.size rfl 30 _ (0, 0) _ R0.out Try.underlying30 rfl HIj.out ?_)
          | (refine wpList_store_row rfl _ _ _ rfl rfl rfl Z0.out Hz.out HIj.out H1j.out ?_; intro w3 hg3 ho3; have HG := Lib.hid hg3; have HO := Lib.hid ho3; clear hg3 ho3))
    refine bodyPost_ret (results_row_tmp rfl _ _ (w.heap.size + 1) 30 _ (0, 0) _ rfl HG.out Try.underlying30 rfl HIj.out) rfl ?_
    exact ⟨j, so, sc, by rw [Hjc.out]; rfl, fun h0 => absurd h0 H1.out, B0.out.trans (HO.out.below (by have := B0.out.size; omega) (fun k hk e => by omega))⟩
  have d1 : ((e1 : Int) != 0) = false := by simp; omega
  have d1' : (e1 != 0) = false := by simp; omega
  rw [if_neg h1]
  clear h1
  by_cases h2 : e2 ≠ 0
  · have d2 : ((e2 : Int) != 0) = true := by simp; omega
    have d2' : (e2 != 0) = true := by simp; omega
    rw [if_pos h2]
    have H1 := Lib.hid h2
    clear h2 hle
    obtain ⟨jc, hjc⟩ : ∃ jc, jobCs j so sc = jc := ⟨_, rfl⟩
    have Hjc := Lib.hid hjc
    rw [hjc] at R0 HIj H1j HW0
    have Hz := Lib.hid (show jc.size = zeroCs.size by rw [← hjc]; rfl)
    rw [hjc]
    clear hjc
    go_enter Try.func49, Try.ntmps49
    go_upto_region 1 with fail
    rw [HW0.out]
    go_wp2_with
    (first
          | (go_at_call 60; (with_reducible refine (HNs.out _).mono ?_); rintro e w1 ⟨rfl, rfl⟩)
          | (go_at_call 60; (with_reducible refine (HNt.out _).mono ?_); rintro e w1 ⟨rfl, rfl⟩)
          | (refine wpList_load_row rfl _ _ rfl w.heap.size rfl 30 _ (0, 0) _ R0.out Try.underlying30 rfl HIj.out ?_)
          | (refine wpList_store_row rfl _ _ _ rfl rfl rfl Z0.out Hz.out HIj.out H1j.out ?_; intro w3 hg3 ho3; have HG := Lib.hid hg3; have HO := Lib.hid ho3; clear hg3 ho3))
    refine bodyPost_ret (results_row_tmp rfl _ _ (w.heap.size + 1) 30 _ (0, 0) _ rfl HG.out Try.underlying30 rfl HIj.out) rfl ?_
    exact ⟨j, so, sc, by rw [Hjc.out]; rfl, fun h0 => absurd h0 H1.out, B0.out.trans (HO.out.below (by have := B0.out.size; omega) (fun k hk e => by omega))⟩
  have d2 : ((e2 : Int) != 0) = false := by simp; omega
  have d2' : (e2 != 0) = false := by simp; omega
  rw [if_neg h2]
  clear h2 hle
  obtain ⟨J2, hJ2⟩ : ∃ J2, setC (setC j 7 n1) 8 n2 = J2 := ⟨_, rfl⟩
  have HJs := Lib.hid (show J2.src = j.src by rw [← hJ2, setC_src, setC_src])
  obtain ⟨jc, hjc⟩ : ∃ jc, jobCs J2 so sc = jc := ⟨_, rfl⟩
  have Hjc := Lib.hid hjc
  have HIj := Lib.hid (jb_info19 J2 so sc)
  have H1j := Lib.hid (jb_one19 J2 so sc)
  have Hz := Lib.hid (show jc.size = zeroCs.size by rw [← hjc]; rfl)
  have R1 := row_num (c := 7) R0.out (by decide) n1
  have R2 := Lib.hid (row_num (c := 8) R1 (by decide) n2)
  have Z2 := Lib.hid (show ((W0.setCell ⟨w.heap.size, 7, none⟩ (.int .u32 (n1 : Nat))).setCell ⟨w.heap.size, 8, none⟩ (.int .u32 (n2 : Nat))).heap[w.heap.size + 1]? = some (.cells zeroCs 30 (0, 0)) from (row_other _ (by omega)).trans ((row_other _ (by omega)).trans Z0.out))
  rw [hJ2, hjc] at R2
  rw [hjc] at HIj H1j
  rw [hJ2]
  have k1 : W0.cell? ⟨w.heap.size, 7, none⟩ = some (.int .u32 (jobC j 7 : Nat)) := (cell_of_row _ _ _ _ _ _ R0.out).trans (jobCs_at (by decide))
  have k2 : W0.cell? ⟨w.heap.size, 8, none⟩ = some (.int .u32 (jobC j 8 : Nat)) := (cell_of_row _ _ _ _ _ _ R0.out).trans (jobCs_at (by decide))
  have k3 := frozen_of_row W0 w.heap.size 7 _ _ R0.out
  have k4 := frozen_of_row W0 w.heap.size 8 _ _ R0.out
  generalize jobC j 7 = o1 at k1
  generalize jobC j 8 = o2 at k2
  clear R1 hjc hJ2 hb1 hb2
  go_enter Try.func49, Try.ntmps49
  go_upto_region 1 with fail
  rw [HW0.out]
  go_upto_region 8 with (first
        | (go_at_call 60; (with_reducible refine (HNs.out _).mono ?_); rintro e w1 ⟨rfl, rfl⟩)
        | (go_at_call 60; (with_reducible refine (HNt.out _).mono ?_); rintro e w1 ⟨rfl, rfl⟩))
  go_wp2_with
  (first
        | (go_at_call 60; (with_reducible refine (HNs.out _).mono ?_); rintro e w1 ⟨rfl, rfl⟩)
        | (go_at_call 60; (with_reducible refine (HNt.out _).mono ?_); rintro e w1 ⟨rfl, rfl⟩)
        | (refine wpList_load_row rfl _ _ rfl w.heap.size rfl 30 _ (0, 0) _ R2.out Try.underlying30 rfl HIj.out ?_)
        | (refine wpList_store_row rfl _ _ _ rfl rfl rfl Z2.out Hz.out HIj.out H1j.out ?_; intro w3 hg3 ho3; have HG := Lib.hid hg3; have HO := Lib.hid ho3; clear hg3 ho3))
  refine bodyPost_ret (results_row_tmp rfl _ _ (w.heap.size + 1) 30 _ (0, 0) _ rfl HG.out Try.underlying30 rfl HIj.out) rfl ?_
  have hBW := (Only.refl (fun k => k = w.heap.size) w1).setCell (p := ⟨w.heap.size, 7, none⟩) (fun _ => rfl) (.int .u32 (n1 : Nat))
  have hBV := hBW.setCell (p := ⟨w.heap.size, 8, none⟩) (fun _ => rfl) (.int .u32 (n2 : Nat))
  have hAll := (B0.out.trans (hBV.below (by have := S0.out; omega) (fun k hk e => by omega))).trans (HO.out.below (by have := S0.out; simp; omega) (fun k hk e => by omega))
  exact ⟨J2, so, sc, by rw [Hjc.out]; rfl, fun _ => ⟨rfl, by rw [HJs.out]; exact Hsrc.out.ext hAll, .inl ⟨rfl, HJs.out⟩⟩, hAll⟩
set_option maxRecDepth 100000 in
set_option maxHeartbeats 6400000 in
theorem rtwo_restart (j : JobD) (so : Option Addr) (sc : Nat) (s t : W8) (hs : s.length ≤ 1073741824) (ht : t.length ≤ 1073741824) (w : World) (hsrc : Rd w so j.src.length (u32s j.src)) :
    Calls Try.prog 49 #[.agg (jobCs j so sc), .string (bs [114, 101, 115, 116, 97, 114, 116]), .string (bs s), .string (bs t)] w (LineRet so j.src (numsJ j [114, 101, 115, 116, 97, 114, 116] [s, t]) w) := by
  have HNs := Lib.hid (fun W => (show Calls Try.prog 60 #[.string (bs s), .int .u64 0, .int .u64 4294967295] W fun e w' => e = numOut (numL s 0 4294967295) ∧ w' = W from rnumber19_any s 0 4294967295 hs (by omega) W))
  have HNt := Lib.hid (fun W => (show Calls Try.prog 60 #[.string (bs t), .int .u64 1, .int .u64 4294967295] W fun e w' => e = numOut (numL t 1 4294967295) ∧ w' = W from rnumber19_any t 1 4294967295 ht (by omega) W))
  have hv : numsJ j [114, 101, 115, 116, 97, 114, 116] [s, t] = if (numL s 0 4294967295).2 ≠ 0 then (j, (numL s 0 4294967295).2) else if (numL t 1 4294967295).2 ≠ 0 then (setC j 5 (numL s 0 4294967295).1, (numL t 1 4294967295).2) else if (numL t 1 4294967295).1 < (numL s 0 4294967295).1 then (setC (setC j 5 (numL s 0 4294967295).1) 6 (numL t 1 4294967295).1, 9) else (setC (setC j 5 (numL s 0 4294967295).1) 6 (numL t 1 4294967295).1, 0) := by
    have he : entryJ [114, 101, 115, 116, 97, 114, 116] = [(5, 0, 4294967295), (6, 1, 4294967295)] := by decide
    unfold numsJ
    rw [he]
    unfold takeC
    by_cases h1 : (numL s 0 4294967295).2 ≠ 0
    · simp only [if_pos h1]
    · simp only [if_neg h1]
      unfold takeC
      by_cases h2 : (numL t 1 4294967295).2 ≠ 0
      · simp only [if_pos h2]
      · simp only [if_neg h2]
        unfold takeC
        simp only [ne_eq, not_true, if_false]
        rfl
  have hb1 := numL_lt (w := s) (least := 0) (most := 4294967295)
  have hb2 := numL_lt (w := t) (least := 1) (most := 4294967295)
  rw [hv]
  clear hv
  unfold numOut at HNs HNt
  generalize numL s 0 4294967295 = r1 at *
  generalize numL t 1 4294967295 = r2 at *
  obtain ⟨n1, e1⟩ := r1
  obtain ⟨n2, e2⟩ := r2
  simp only at hb1 hb2 HNs HNt ⊢
  obtain ⟨W0, hW0⟩ : ∃ W0, (w.alloc (.cells (jobCs j so sc) 30)).alloc (.cells zeroCs 30) = W0 := ⟨_, rfl⟩
  have B0 := Lib.hid (show Below w.heap.size w W0 by rw [← hW0]; exact (ext_alloc w _).alloc (by simp) _)
  have S0 := Lib.hid (show W0.heap.size = w.heap.size + 2 by rw [← hW0]; simp)
  have R0 := Lib.hid (show W0.heap[w.heap.size]? = some (.cells (jobCs j so sc) 30 (0, 0)) by rw [← hW0]; exact heap_alloc2_old _ _ _)
  have Z0 := Lib.hid (show W0.heap[w.heap.size + 1]? = some (.cells zeroCs 30 (0, 0)) by rw [← hW0]; exact heap_alloc2_new _ _ _)
  have HIj := Lib.hid (jb_info19 j so sc)
  have H1j := Lib.hid (jb_one19 j so sc)
  have Hsrc := Lib.hid hsrc
  have HW0 := Lib.hid hW0
  unfold zeroCs at HW0
  clear hW0 hsrc
  have u1 : IntKind.u32.wrap (n1 : Int) = (n1 : Int) := IntWalk.u32_in _ (by omega)
  have u2 : IntKind.u32.wrap (n2 : Int) = (n2 : Int) := IntWalk.u32_in _ (by omega)
  by_cases h1 : e1 ≠ 0
  · have d1 : ((e1 : Int) != 0) = true := by simp; omega
    have d1' : (e1 != 0) = true := by simp; omega
    rw [if_pos h1]
    have H1 := Lib.hid h1
    clear HNt h1 
    obtain ⟨jc, hjc⟩ : ∃ jc, jobCs j so sc = jc := ⟨_, rfl⟩
    have Hjc := Lib.hid hjc
    rw [hjc] at R0 HIj H1j HW0
    have Hz := Lib.hid (show jc.size = zeroCs.size by rw [← hjc]; rfl)
    rw [hjc]
    clear hjc
    go_enter Try.func49, Try.ntmps49
    go_upto_region 1 with fail
    rw [HW0.out]
    go_wp2_with
    (first
          | (go_at_call 60; (with_reducible refine (HNs.out _).mono ?_); rintro e w1 ⟨rfl, rfl⟩)
          | (go_at_call 60; (with_reducible refine (HNt.out _).mono ?_); rintro e w1 ⟨rfl, rfl⟩)
          | (refine wpList_load_row rfl _ _ rfl w.heap.size rfl 30 _ (0, 0) _ R0.out Try.underlying30 rfl HIj.out ?_)
          | (refine wpList_store_row rfl _ _ _ rfl rfl rfl Z0.out Hz.out HIj.out H1j.out ?_; intro w3 hg3 ho3; have HG := Lib.hid hg3; have HO := Lib.hid ho3; clear hg3 ho3))
    refine bodyPost_ret (results_row_tmp rfl _ _ (w.heap.size + 1) 30 _ (0, 0) _ rfl HG.out Try.underlying30 rfl HIj.out) rfl ?_
    exact ⟨j, so, sc, by rw [Hjc.out]; rfl, fun h0 => absurd h0 H1.out, B0.out.trans (HO.out.below (by have := B0.out.size; omega) (fun k hk e => by omega))⟩
  have d1 : ((e1 : Int) != 0) = false := by simp; omega
  have d1' : (e1 != 0) = false := by simp; omega
  rw [if_neg h1]
  clear h1
  by_cases h2 : e2 ≠ 0
  · have d2 : ((e2 : Int) != 0) = true := by simp; omega
    have d2' : (e2 != 0) = true := by simp; omega
    rw [if_pos h2]
    have H1 := Lib.hid h2
    clear h2 
    obtain ⟨jc, hjc⟩ : ∃ jc, jobCs j so sc = jc := ⟨_, rfl⟩
    have Hjc := Lib.hid hjc
    rw [hjc] at R0 HIj H1j HW0
    have Hz := Lib.hid (show jc.size = zeroCs.size by rw [← hjc]; rfl)
    rw [hjc]
    clear hjc
    go_enter Try.func49, Try.ntmps49
    go_upto_region 1 with fail
    rw [HW0.out]
    go_wp2_with
    (first
          | (go_at_call 60; (with_reducible refine (HNs.out _).mono ?_); rintro e w1 ⟨rfl, rfl⟩)
          | (go_at_call 60; (with_reducible refine (HNt.out _).mono ?_); rintro e w1 ⟨rfl, rfl⟩)
          | (refine wpList_load_row rfl _ _ rfl w.heap.size rfl 30 _ (0, 0) _ R0.out Try.underlying30 rfl HIj.out ?_)
          | (refine wpList_store_row rfl _ _ _ rfl rfl rfl Z0.out Hz.out HIj.out H1j.out ?_; intro w3 hg3 ho3; have HG := Lib.hid hg3; have HO := Lib.hid ho3; clear hg3 ho3))
    refine bodyPost_ret (results_row_tmp rfl _ _ (w.heap.size + 1) 30 _ (0, 0) _ rfl HG.out Try.underlying30 rfl HIj.out) rfl ?_
    exact ⟨j, so, sc, by rw [Hjc.out]; rfl, fun h0 => absurd h0 H1.out, B0.out.trans (HO.out.below (by have := B0.out.size; omega) (fun k hk e => by omega))⟩
  have d2 : ((e2 : Int) != 0) = false := by simp; omega
  have d2' : (e2 != 0) = false := by simp; omega
  rw [if_neg h2]
  clear h2 
  by_cases h3 : n2 < n1
  · rw [if_pos h3]
    have d3 : decide ((n2 : Int) < (n1 : Int)) = true := decide_eq_true (by omega)
    have d3' : decide (n2 < n1) = true := decide_eq_true h3
    have H1 := Lib.hid (show (9 : Nat) ≠ 0 by omega)
    clear h3 hb1 hb2
    obtain ⟨jc, hjc⟩ : ∃ jc, jobCs j so sc = jc := ⟨_, rfl⟩
    have Hjc := Lib.hid hjc
    rw [hjc] at R0 HIj H1j HW0
    have Hz := Lib.hid (show jc.size = zeroCs.size by rw [← hjc]; rfl)
    rw [hjc]
    clear hjc
    go_enter Try.func49, Try.ntmps49
    go_upto_region 1 with fail
    rw [HW0.out]
    go_wp2_with
    (first
          | (go_at_call 60; (with_reducible refine (HNs.out _).mono ?_); rintro e w1 ⟨rfl, rfl⟩)
          | (go_at_call 60; (with_reducible refine (HNt.out _).mono ?_); rintro e w1 ⟨rfl, rfl⟩)
          | (refine wpList_load_row rfl _ _ rfl w.heap.size rfl 30 _ (0, 0) _ R0.out Try.underlying30 rfl HIj.out ?_)
          | (refine wpList_store_row rfl _ _ _ rfl rfl rfl Z0.out Hz.out HIj.out H1j.out ?_; intro w3 hg3 ho3; have HG := Lib.hid hg3; have HO := Lib.hid ho3; clear hg3 ho3))
    refine bodyPost_ret (results_row_tmp rfl _ _ (w.heap.size + 1) 30 _ (0, 0) _ rfl HG.out Try.underlying30 rfl HIj.out) rfl ?_
    exact ⟨j, so, sc, by rw [Hjc.out]; rfl, fun h0 => absurd h0 H1.out, B0.out.trans (HO.out.below (by have := B0.out.size; omega) (fun k hk e => by omega))⟩
  rw [if_neg h3]
  have d3 : decide ((n2 : Int) < (n1 : Int)) = false := decide_eq_false (by omega)
  have d3' : decide (n2 < n1) = false := decide_eq_false h3
  clear h3
  obtain ⟨J2, hJ2⟩ : ∃ J2, setC (setC j 5 n1) 6 n2 = J2 := ⟨_, rfl⟩
  have HJs := Lib.hid (show J2.src = j.src by rw [← hJ2, setC_src, setC_src])
  obtain ⟨jc, hjc⟩ : ∃ jc, jobCs J2 so sc = jc := ⟨_, rfl⟩
  have Hjc := Lib.hid hjc
  have HIj := Lib.hid (jb_info19 J2 so sc)
  have H1j := Lib.hid (jb_one19 J2 so sc)
  have Hz := Lib.hid (show jc.size = zeroCs.size by rw [← hjc]; rfl)
  have R1 := row_num (c := 5) R0.out (by decide) n1
  have R2 := Lib.hid (row_num (c := 6) R1 (by decide) n2)
  have Z2 := Lib.hid (show ((W0.setCell ⟨w.heap.size, 5, none⟩ (.int .u32 (n1 : Nat))).setCell ⟨w.heap.size, 6, none⟩ (.int .u32 (n2 : Nat))).heap[w.heap.size + 1]? = some (.cells zeroCs 30 (0, 0)) from (row_other _ (by omega)).trans ((row_other _ (by omega)).trans Z0.out))
  rw [hJ2, hjc] at R2
  rw [hjc] at HIj H1j
  rw [hJ2]
  have k1 : W0.cell? ⟨w.heap.size, 5, none⟩ = some (.int .u32 (jobC j 5 : Nat)) := (cell_of_row _ _ _ _ _ _ R0.out).trans (jobCs_at (by decide))
  have k2 : W0.cell? ⟨w.heap.size, 6, none⟩ = some (.int .u32 (jobC j 6 : Nat)) := (cell_of_row _ _ _ _ _ _ R0.out).trans (jobCs_at (by decide))
  have k3 := frozen_of_row W0 w.heap.size 5 _ _ R0.out
  have k4 := frozen_of_row W0 w.heap.size 6 _ _ R0.out
  generalize jobC j 5 = o1 at k1
  generalize jobC j 6 = o2 at k2
  clear R1 hjc hJ2 hb1 hb2
  go_enter Try.func49, Try.ntmps49
  go_upto_region 1 with fail
  rw [HW0.out]
  go_upto_region 18 with (first
        | (go_at_call 60; (with_reducible refine (HNs.out _).mono ?_); rintro e w1 ⟨rfl, rfl⟩)
        | (go_at_call 60; (with_reducible refine (HNt.out _).mono ?_); rintro e w1 ⟨rfl, rfl⟩))
  go_wp2_with
  (first
        | (go_at_call 60; (with_reducible refine (HNs.out _).mono ?_); rintro e w1 ⟨rfl, rfl⟩)
        | (go_at_call 60; (with_reducible refine (HNt.out _).mono ?_); rintro e w1 ⟨rfl, rfl⟩)
        | (refine wpList_load_row rfl _ _ rfl w.heap.size rfl 30 _ (0, 0) _ R2.out Try.underlying30 rfl HIj.out ?_)
        | (refine wpList_store_row rfl _ _ _ rfl rfl rfl Z2.out Hz.out HIj.out H1j.out ?_; intro w3 hg3 ho3; have HG := Lib.hid hg3; have HO := Lib.hid ho3; clear hg3 ho3))
  refine bodyPost_ret (results_row_tmp rfl _ _ (w.heap.size + 1) 30 _ (0, 0) _ rfl HG.out Try.underlying30 rfl HIj.out) rfl ?_
  have hBW := (Only.refl (fun k => k = w.heap.size) w1).setCell (p := ⟨w.heap.size, 5, none⟩) (fun _ => rfl) (.int .u32 (n1 : Nat))
  have hBV := hBW.setCell (p := ⟨w.heap.size, 6, none⟩) (fun _ => rfl) (.int .u32 (n2 : Nat))
  have hAll := (B0.out.trans (hBV.below (by have := S0.out; omega) (fun k hk e => by omega))).trans (HO.out.below (by have := S0.out; simp; omega) (fun k hk e => by omega))
  exact ⟨J2, so, sc, by rw [Hjc.out]; rfl, fun _ => ⟨rfl, by rw [HJs.out]; exact Hsrc.out.ext hAll, .inl ⟨rfl, HJs.out⟩⟩, hAll⟩
end Go.Proofs.Ytmflopeedofkhaa

namespace Go.Proofs.Ytmflopeedofkhaa
set_option linter.unusedSimpArgs false
set_option linter.unusedVariables false
set_option maxRecDepth 100000
open Go.RowKit

theorem tmod32 {n : Nat} (h : n < 4294967296) : (n : Int).tmod 4294967296 = (n : Int) := by
  have h1 : (n : Int).tmod ((4294967296 : Nat) : Int) = ((n % 4294967296 : Nat) : Int) := (Int.ofNat_tmod n 4294967296).symm
  rw [Nat.mod_eq_of_lt h] at h1
  exact h1
set_option maxRecDepth 100000 in
set_option maxHeartbeats 6400000 in
theorem rone_length (j : JobD) (hle : j.stop ≤ j.od) (so : Option Addr) (sc : Nat) (s : W8) (hs : s.length ≤ 1073741824) (w : World) (hsrc : Rd w so j.src.length (u32s j.src)) :
    Calls Try.prog 50 #[.agg (jobCs j so sc), .string (bs [108, 101, 110, 103, 116, 104]), .string (bs s)] w (LineRet so j.src (numsJ j [108, 101, 110, 103, 116, 104] [s]) w) := by
  have HNs := Lib.hid (fun W => (show Calls Try.prog 60 #[.string (bs s), .int .u64 0, .int .u64 65536] W fun e w' => e = numOut (numL s 0 65536) ∧ w' = W from rnumber19_any s 0 65536 hs (by omega) W))
  have hv : numsJ j [108, 101, 110, 103, 116, 104] [s] = if (numL s 0 65536).2 ≠ 0 then (j, (numL s 0 65536).2) else (setC j 2 (numL s 0 65536).1, 0) := by
    have he : entryJ [108, 101, 110, 103, 116, 104] = [(2, 0, 65536)] := by decide
    unfold numsJ
    rw [he]
    unfold takeC
    by_cases h1 : (numL s 0 65536).2 ≠ 0
    · simp only [if_pos h1]
    · simp only [if_neg h1]
      unfold takeC
      simp only [ne_eq, not_true, if_false]
      rw [if_neg (by show ¬ j.od < j.stop; omega)]
  have hb1 := numL_lt (w := s) (least := 0) (most := 65536)
  rw [hv]
  clear hv
  unfold numOut at HNs
  generalize numL s 0 65536 = r1 at *
  obtain ⟨n1, e1⟩ := r1
  simp only at hb1 HNs ⊢
  obtain ⟨W0, hW0⟩ : ∃ W0, (w.alloc (.cells (jobCs j so sc) 30)).alloc (.cells zeroCs 30) = W0 := ⟨_, rfl⟩
  have B0 := Lib.hid (show Below w.heap.size w W0 by rw [← hW0]; exact (ext_alloc w _).alloc (by simp) _)
  have S0 := Lib.hid (show W0.heap.size = w.heap.size + 2 by rw [← hW0]; simp)
  have R0 := Lib.hid (show W0.heap[w.heap.size]? = some (.cells (jobCs j so sc) 30 (0, 0)) by rw [← hW0]; exact heap_alloc2_old _ _ _)
  have Z0 := Lib.hid (show W0.heap[w.heap.size + 1]? = some (.cells zeroCs 30 (0, 0)) by rw [← hW0]; exact heap_alloc2_new _ _ _)
  have HIj := Lib.hid (jb_info19 j so sc)
  have H1j := Lib.hid (jb_one19 j so sc)
  have Hsrc := Lib.hid hsrc
  have HW0 := Lib.hid hW0
  unfold zeroCs at HW0
  clear hW0 hsrc
  by_cases h1 : e1 ≠ 0
  · have d1 : ((e1 : Int) != 0) = true := by simp; omega
    have d1' : (e1 != 0) = true := by simp; omega
    rw [if_pos h1]
    have H1 := Lib.hid h1
    clear h1 hle
    obtain ⟨jc, hjc⟩ : ∃ jc, jobCs j so sc = jc := ⟨_, rfl⟩
    have Hjc := Lib.hid hjc
    rw [hjc] at R0 HIj H1j HW0
    have Hz := Lib.hid (show jc.size = zeroCs.size by rw [← hjc]; rfl)
    rw [hjc]
    clear hjc
    go_enter Try.func50, Try.ntmps50
    go_upto_region 1 with fail
    rw [HW0.out]
    go_wp2_with
    (first
          | (go_at_call 60; (with_reducible refine (HNs.out _).mono ?_); rintro e w1 ⟨rfl, rfl⟩)
          | (refine wpList_load_row rfl _ _ rfl w.heap.size rfl 30 _ (0, 0) _ R0.out Try.underlying30 rfl HIj.out ?_)
          | (refine wpList_store_row rfl _ _ _ rfl rfl rfl Z0.out Hz.out HIj.out H1j.out ?_; intro w3 hg3 ho3; have HG := Lib.hid hg3; have HO := Lib.hid ho3; clear hg3 ho3))
    refine bodyPost_ret (results_row_tmp rfl _ _ (w.heap.size + 1) 30 _ (0, 0) _ rfl HG.out Try.underlying30 rfl HIj.out) rfl ?_
    exact ⟨j, so, sc, by rw [Hjc.out]; rfl, fun h0 => absurd h0 H1.out, B0.out.trans (HO.out.below (by have := B0.out.size; omega) (fun k hk e => by omega))⟩
  have d1 : ((e1 : Int) != 0) = false := by simp; omega
  have d1' : (e1 != 0) = false := by simp; omega
  rw [if_neg h1]
  clear h1 hle
  have u0 : IntKind.u64.wrap (n1 : Int) = (n1 : Int) := IntWalk.u64_in _ (by omega)
  have u1 : IntKind.u32.wrap (n1 : Int) = (n1 : Int) := IntWalk.u32_in _ (by omega)
  have u2 : (n1 : Int).tmod 4294967296 = (n1 : Int) := tmod32 (by omega)
  obtain ⟨J2, hJ2⟩ : ∃ J2, setC j 2 n1 = J2 := ⟨_, rfl⟩
  have HJs := Lib.hid (show J2.src = j.src by rw [← hJ2, setC_src])
  obtain ⟨jc, hjc⟩ : ∃ jc, jobCs J2 so sc = jc := ⟨_, rfl⟩
  have Hjc := Lib.hid hjc
  have HIj := Lib.hid (jb_info19 J2 so sc)
  have H1j := Lib.hid (jb_one19 J2 so sc)
  have Hz := Lib.hid (show jc.size = zeroCs.size by rw [← hjc]; rfl)
  have R2 := Lib.hid (row_num (c := 2) R0.out (by decide) n1)
  have Z2 := Lib.hid (show (W0.setCell ⟨w.heap.size, 2, none⟩ (.int .u32 (n1 : Nat))).heap[w.heap.size + 1]? = some (.cells zeroCs 30 (0, 0)) from (row_other _ (by omega)).trans Z0.out)
  rw [hJ2, hjc] at R2
  rw [hjc] at HIj H1j
  rw [hJ2]
  have k1 : W0.cell? ⟨w.heap.size, 2, none⟩ = some (.int .u32 (jobC j 2 : Nat)) := (cell_of_row _ _ _ _ _ _ R0.out).trans (jobCs_at (by decide))
  have k3 := frozen_of_row W0 w.heap.size 2 _ _ R0.out
  generalize jobC j 2 = o1 at k1
  clear hjc hJ2 hb1
  go_enter Try.func50, Try.ntmps50
  go_upto_region 1 with fail
  rw [HW0.out]
  go_wp2_with
  (first
        | (go_at_call 60; (with_reducible refine (HNs.out _).mono ?_); rintro e w1 ⟨rfl, rfl⟩)
        | (refine wpList_load_row rfl _ _ rfl w.heap.size rfl 30 _ (0, 0) _ R2.out Try.underlying30 rfl HIj.out ?_)
        | (refine wpList_store_row rfl _ _ _ rfl rfl rfl Z2.out Hz.out HIj.out H1j.out ?_; intro w3 hg3 ho3; have HG := Lib.hid hg3; have HO := Lib.hid ho3; clear hg3 ho3))
  refine bodyPost_ret (results_row_tmp rfl _ _ (w.heap.size + 1) 30 _ (0, 0) _ rfl HG.out Try.underlying30 rfl HIj.out) rfl ?_
  have hBV := (Only.refl (fun k => k = w.heap.size) w1).setCell (p := ⟨w.heap.size, 2, none⟩) (fun _ => rfl) (.int .u32 (n1 : Nat))
  have hAll := (B0.out.trans (hBV.below (by have := S0.out; omega) (fun k hk e => by omega))).trans (HO.out.below (by have := S0.out; simp; omega) (fun k hk e => by omega))
  exact ⟨J2, so, sc, by rw [Hjc.out]; rfl, fun _ => ⟨rfl, by rw [HJs.out]; exact Hsrc.out.ext hAll, .inl ⟨rfl, HJs.out⟩⟩, hAll⟩
set_option maxRecDepth 100000 in
set_option maxHeartbeats 6400000 in
theorem rone_walks (j : JobD) (hle : j.stop ≤ j.od) (so : Option Addr) (sc : Nat) (s : W8) (hs : s.length ≤ 1073741824) (w : World) (hsrc : Rd w so j.src.length (u32s j.src)) :
    Calls Try.prog 50 #[.agg (jobCs j so sc), .string (bs [119, 97, 108, 107, 115]), .string (bs s)] w (LineRet so j.src (numsJ j [119, 97, 108, 107, 115] [s]) w) := by
  have HNs := Lib.hid (fun W => (show Calls Try.prog 60 #[.string (bs s), .int .u64 1, .int .u64 65536] W fun e w' => e = numOut (numL s 1 65536) ∧ w' = W from rnumber19_any s 1 65536 hs (by omega) W))
  have hv : numsJ j [119, 97, 108, 107, 115] [s] = if (numL s 1 65536).2 ≠ 0 then (j, (numL s 1 65536).2) else (setC j 3 (numL s 1 65536).1, 0) := by
    have he : entryJ [119, 97, 108, 107, 115] = [(3, 1, 65536)] := by decide
    unfold numsJ
    rw [he]
    unfold takeC
    by_cases h1 : (numL s 1 65536).2 ≠ 0
    · simp only [if_pos h1]
    · simp only [if_neg h1]
      unfold takeC
      simp only [ne_eq, not_true, if_false]
      rw [if_neg (by show ¬ j.od < j.stop; omega)]
  have hb1 := numL_lt (w := s) (least := 1) (most := 65536)
  rw [hv]
  clear hv
  unfold numOut at HNs
  generalize numL s 1 65536 = r1 at *
  obtain ⟨n1, e1⟩ := r1
  simp only at hb1 HNs ⊢
  obtain ⟨W0, hW0⟩ : ∃ W0, (w.alloc (.cells (jobCs j so sc) 30)).alloc (.cells zeroCs 30) = W0 := ⟨_, rfl⟩
  have B0 := Lib.hid (show Below w.heap.size w W0 by rw [← hW0]; exact (ext_alloc w _).alloc (by simp) _)
  have S0 := Lib.hid (show W0.heap.size = w.heap.size + 2 by rw [← hW0]; simp)
  have R0 := Lib.hid (show W0.heap[w.heap.size]? = some (.cells (jobCs j so sc) 30 (0, 0)) by rw [← hW0]; exact heap_alloc2_old _ _ _)
  have Z0 := Lib.hid (show W0.heap[w.heap.size + 1]? = some (.cells zeroCs 30 (0, 0)) by rw [← hW0]; exact heap_alloc2_new _ _ _)
  have HIj := Lib.hid (jb_info19 j so sc)
  have H1j := Lib.hid (jb_one19 j so sc)
  have Hsrc := Lib.hid hsrc
  have HW0 := Lib.hid hW0
  unfold zeroCs at HW0
  clear hW0 hsrc
  by_cases h1 : e1 ≠ 0
  · have d1 : ((e1 : Int) != 0) = true := by simp; omega
    have d1' : (e1 != 0) = true := by simp; omega
    rw [if_pos h1]
    have H1 := Lib.hid h1
    clear h1 hle
    obtain ⟨jc, hjc⟩ : ∃ jc, jobCs j so sc = jc := ⟨_, rfl⟩
    have Hjc := Lib.hid hjc
    rw [hjc] at R0 HIj H1j HW0
    have Hz := Lib.hid (show jc.size = zeroCs.size by rw [← hjc]; rfl)
    rw [hjc]
    clear hjc
    go_enter Try.func50, Try.ntmps50
    go_upto_region 1 with fail
    rw [HW0.out]
    go_wp2_with
    (first
          | (go_at_call 60; (with_reducible refine (HNs.out _).mono ?_); rintro e w1 ⟨rfl, rfl⟩)
          | (refine wpList_load_row rfl _ _ rfl w.heap.size rfl 30 _ (0, 0) _ R0.out Try.underlying30 rfl HIj.out ?_)
          | (refine wpList_store_row rfl _ _ _ rfl rfl rfl Z0.out Hz.out HIj.out H1j.out ?_; intro w3 hg3 ho3; have HG := Lib.hid hg3; have HO := Lib.hid ho3; clear hg3 ho3))
    refine bodyPost_ret (results_row_tmp rfl _ _ (w.heap.size + 1) 30 _ (0, 0) _ rfl HG.out Try.underlying30 rfl HIj.out) rfl ?_
    exact ⟨j, so, sc, by rw [Hjc.out]; rfl, fun h0 => absurd h0 H1.out, B0.out.trans (HO.out.below (by have := B0.out.size; omega) (fun k hk e => by omega))⟩
  have d1 : ((e1 : Int) != 0) = false := by simp; omega
  have d1' : (e1 != 0) = false := by simp; omega
  rw [if_neg h1]
  clear h1 hle
  have u0 : IntKind.u64.wrap (n1 : Int) = (n1 : Int) := IntWalk.u64_in _ (by omega)
  have u1 : IntKind.u32.wrap (n1 : Int) = (n1 : Int) := IntWalk.u32_in _ (by omega)
  have u2 : (n1 : Int).tmod 4294967296 = (n1 : Int) := tmod32 (by omega)
  obtain ⟨J2, hJ2⟩ : ∃ J2, setC j 3 n1 = J2 := ⟨_, rfl⟩
  have HJs := Lib.hid (show J2.src = j.src by rw [← hJ2, setC_src])
  obtain ⟨jc, hjc⟩ : ∃ jc, jobCs J2 so sc = jc := ⟨_, rfl⟩
  have Hjc := Lib.hid hjc
  have HIj := Lib.hid (jb_info19 J2 so sc)
  have H1j := Lib.hid (jb_one19 J2 so sc)
  have Hz := Lib.hid (show jc.size = zeroCs.size by rw [← hjc]; rfl)
  have R2 := Lib.hid (row_num (c := 3) R0.out (by decide) n1)
  have Z2 := Lib.hid (show (W0.setCell ⟨w.heap.size, 3, none⟩ (.int .u32 (n1 : Nat))).heap[w.heap.size + 1]? = some (.cells zeroCs 30 (0, 0)) from (row_other _ (by omega)).trans Z0.out)
  rw [hJ2, hjc] at R2
  rw [hjc] at HIj H1j
  rw [hJ2]
  have k1 : W0.cell? ⟨w.heap.size, 3, none⟩ = some (.int .u32 (jobC j 3 : Nat)) := (cell_of_row _ _ _ _ _ _ R0.out).trans (jobCs_at (by decide))
  have k3 := frozen_of_row W0 w.heap.size 3 _ _ R0.out
  generalize jobC j 3 = o1 at k1
  clear hjc hJ2 hb1
  go_enter Try.func50, Try.ntmps50
  go_upto_region 1 with fail
  rw [HW0.out]
  go_wp2_with
  (first
        | (go_at_call 60; (with_reducible refine (HNs.out _).mono ?_); rintro e w1 ⟨rfl, rfl⟩)
        | (refine wpList_load_row rfl _ _ rfl w.heap.size rfl 30 _ (0, 0) _ R2.out Try.underlying30 rfl HIj.out ?_)
        | (refine wpList_store_row rfl _ _ _ rfl rfl rfl Z2.out Hz.out HIj.out H1j.out ?_; intro w3 hg3 ho3; have HG := Lib.hid hg3; have HO := Lib.hid ho3; clear hg3 ho3))
  refine bodyPost_ret (results_row_tmp rfl _ _ (w.heap.size + 1) 30 _ (0, 0) _ rfl HG.out Try.underlying30 rfl HIj.out) rfl ?_
  have hBV := (Only.refl (fun k => k = w.heap.size) w1).setCell (p := ⟨w.heap.size, 3, none⟩) (fun _ => rfl) (.int .u32 (n1 : Nat))
  have hAll := (B0.out.trans (hBV.below (by have := S0.out; omega) (fun k hk e => by omega))).trans (HO.out.below (by have := S0.out; simp; omega) (fun k hk e => by omega))
  exact ⟨J2, so, sc, by rw [Hjc.out]; rfl, fun _ => ⟨rfl, by rw [HJs.out]; exact Hsrc.out.ext hAll, .inl ⟨rfl, HJs.out⟩⟩, hAll⟩
set_option maxRecDepth 100000 in
set_option maxHeartbeats 6400000 in
theorem rone_tries (j : JobD) (hle : j.stop ≤ j.od) (so : Option Addr) (sc : Nat) (s : W8) (hs : s.length ≤ 1073741824) (w : World) (hsrc : Rd w so j.src.length (u32s j.src)) :
    Calls Try.prog 50 #[.agg (jobCs j so sc), .string (bs [116, 114, 105, 101, 115]), .string (bs s)] w (LineRet so j.src (numsJ j [116, 114, 105, 101, 115] [s]) w) := by
  have HNs := Lib.hid (fun W => (show Calls Try.prog 60 #[.string (bs s), .int .u64 1, .int .u64 1024] W fun e w' => e = numOut (numL s 1 1024) ∧ w' = W from rnumber19_any s 1 1024 hs (by omega) W))
  have hv : numsJ j [116, 114, 105, 101, 115] [s] = if (numL s 1 1024).2 ≠ 0 then (j, (numL s 1 1024).2) else (setC j 9 (numL s 1 1024).1, 0) := by
    have he : entryJ [116, 114, 105, 101, 115] = [(9, 1, 1024)] := by decide
    unfold numsJ
    rw [he]
    unfold takeC
    by_cases h1 : (numL s 1 1024).2 ≠ 0
    · simp only [if_pos h1]
    · simp only [if_neg h1]
      unfold takeC
      simp only [ne_eq, not_true, if_false]
      rw [if_neg (by show ¬ j.od < j.stop; omega)]
  have hb1 := numL_lt (w := s) (least := 1) (most := 1024)
  rw [hv]
  clear hv
  unfold numOut at HNs
  generalize numL s 1 1024 = r1 at *
  obtain ⟨n1, e1⟩ := r1
  simp only at hb1 HNs ⊢
  obtain ⟨W0, hW0⟩ : ∃ W0, (w.alloc (.cells (jobCs j so sc) 30)).alloc (.cells zeroCs 30) = W0 := ⟨_, rfl⟩
  have B0 := Lib.hid (show Below w.heap.size w W0 by rw [← hW0]; exact (ext_alloc w _).alloc (by simp) _)
  have S0 := Lib.hid (show W0.heap.size = w.heap.size + 2 by rw [← hW0]; simp)
  have R0 := Lib.hid (show W0.heap[w.heap.size]? = some (.cells (jobCs j so sc) 30 (0, 0)) by rw [← hW0]; exact heap_alloc2_old _ _ _)
  have Z0 := Lib.hid (show W0.heap[w.heap.size + 1]? = some (.cells zeroCs 30 (0, 0)) by rw [← hW0]; exact heap_alloc2_new _ _ _)
  have HIj := Lib.hid (jb_info19 j so sc)
  have H1j := Lib.hid (jb_one19 j so sc)
  have Hsrc := Lib.hid hsrc
  have HW0 := Lib.hid hW0
  unfold zeroCs at HW0
  clear hW0 hsrc
  by_cases h1 : e1 ≠ 0
  · have d1 : ((e1 : Int) != 0) = true := by simp; omega
    have d1' : (e1 != 0) = true := by simp; omega
    rw [if_pos h1]
    have H1 := Lib.hid h1
    clear h1 hle
    obtain ⟨jc, hjc⟩ : ∃ jc, jobCs j so sc = jc := ⟨_, rfl⟩
    have Hjc := Lib.hid hjc
    rw [hjc] at R0 HIj H1j HW0
    have Hz := Lib.hid (show jc.size = zeroCs.size by rw [← hjc]; rfl)
    rw [hjc]
    clear hjc
    go_enter Try.func50, Try.ntmps50
    go_upto_region 1 with fail
    rw [HW0.out]
    go_wp2_with
    (first
          | (go_at_call 60; (with_reducible refine (HNs.out _).mono ?_); rintro e w1 ⟨rfl, rfl⟩)
          | (refine wpList_load_row rfl _ _ rfl w.heap.size rfl 30 _ (0, 0) _ R0.out Try.underlying30 rfl HIj.out ?_)
          | (refine wpList_store_row rfl _ _ _ rfl rfl rfl Z0.out Hz.out HIj.out H1j.out ?_; intro w3 hg3 ho3; have HG := Lib.hid hg3; have HO := Lib.hid ho3; clear hg3 ho3))
    refine bodyPost_ret (results_row_tmp rfl _ _ (w.heap.size + 1) 30 _ (0, 0) _ rfl HG.out Try.underlying30 rfl HIj.out) rfl ?_
    exact ⟨j, so, sc, by rw [Hjc.out]; rfl, fun h0 => absurd h0 H1.out, B0.out.trans (HO.out.below (by have := B0.out.size; omega) (fun k hk e => by omega))⟩
  have d1 : ((e1 : Int) != 0) = false := by simp; omega
  have d1' : (e1 != 0) = false := by simp; omega
  rw [if_neg h1]
  clear h1 hle
  have u0 : IntKind.u64.wrap (n1 : Int) = (n1 : Int) := IntWalk.u64_in _ (by omega)
  have u1 : IntKind.u32.wrap (n1 : Int) = (n1 : Int) := IntWalk.u32_in _ (by omega)
  have u2 : (n1 : Int).tmod 4294967296 = (n1 : Int) := tmod32 (by omega)
  obtain ⟨J2, hJ2⟩ : ∃ J2, setC j 9 n1 = J2 := ⟨_, rfl⟩
  have HJs := Lib.hid (show J2.src = j.src by rw [← hJ2, setC_src])
  obtain ⟨jc, hjc⟩ : ∃ jc, jobCs J2 so sc = jc := ⟨_, rfl⟩
  have Hjc := Lib.hid hjc
  have HIj := Lib.hid (jb_info19 J2 so sc)
  have H1j := Lib.hid (jb_one19 J2 so sc)
  have Hz := Lib.hid (show jc.size = zeroCs.size by rw [← hjc]; rfl)
  have R2 := Lib.hid (row_num (c := 9) R0.out (by decide) n1)
  have Z2 := Lib.hid (show (W0.setCell ⟨w.heap.size, 9, none⟩ (.int .u32 (n1 : Nat))).heap[w.heap.size + 1]? = some (.cells zeroCs 30 (0, 0)) from (row_other _ (by omega)).trans Z0.out)
  rw [hJ2, hjc] at R2
  rw [hjc] at HIj H1j
  rw [hJ2]
  have k1 : W0.cell? ⟨w.heap.size, 9, none⟩ = some (.int .u32 (jobC j 9 : Nat)) := (cell_of_row _ _ _ _ _ _ R0.out).trans (jobCs_at (by decide))
  have k3 := frozen_of_row W0 w.heap.size 9 _ _ R0.out
  generalize jobC j 9 = o1 at k1
  clear hjc hJ2 hb1
  go_enter Try.func50, Try.ntmps50
  go_upto_region 1 with fail
  rw [HW0.out]
  go_wp2_with
  (first
        | (go_at_call 60; (with_reducible refine (HNs.out _).mono ?_); rintro e w1 ⟨rfl, rfl⟩)
        | (refine wpList_load_row rfl _ _ rfl w.heap.size rfl 30 _ (0, 0) _ R2.out Try.underlying30 rfl HIj.out ?_)
        | (refine wpList_store_row rfl _ _ _ rfl rfl rfl Z2.out Hz.out HIj.out H1j.out ?_; intro w3 hg3 ho3; have HG := Lib.hid hg3; have HO := Lib.hid ho3; clear hg3 ho3))
  refine bodyPost_ret (results_row_tmp rfl _ _ (w.heap.size + 1) 30 _ (0, 0) _ rfl HG.out Try.underlying30 rfl HIj.out) rfl ?_
  have hBV := (Only.refl (fun k => k = w.heap.size) w1).setCell (p := ⟨w.heap.size, 9, none⟩) (fun _ => rfl) (.int .u32 (n1 : Nat))
  have hAll := (B0.out.trans (hBV.below (by have := S0.out; omega) (fun k hk e => by omega))).trans (HO.out.below (by have := S0.out; simp; omega) (fun k hk e => by omega))
  exact ⟨J2, so, sc, by rw [Hjc.out]; rfl, fun _ => ⟨rfl, by rw [HJs.out]; exact Hsrc.out.ext hAll, .inl ⟨rfl, HJs.out⟩⟩, hAll⟩
set_option maxRecDepth 100000 in
set_option maxHeartbeats 6400000 in
theorem rone_best (j : JobD) (hle : j.stop ≤ j.od) (so : Option Addr) (sc : Nat) (s : W8) (hs : s.length ≤ 1073741824) (w : World) (hsrc : Rd w so j.src.length (u32s j.src)) :
    Calls Try.prog 50 #[.agg (jobCs j so sc), .string (bs [98, 101, 115, 116]), .string (bs s)] w (LineRet so j.src (numsJ j [98, 101, 115, 116] [s]) w) := by
  have HNs := Lib.hid (fun W => (show Calls Try.prog 60 #[.string (bs s), .int .u64 0, .int .u64 1024] W fun e w' => e = numOut (numL s 0 1024) ∧ w' = W from rnumber19_any s 0 1024 hs (by omega) W))
  have hv : numsJ j [98, 101, 115, 116] [s] = if (numL s 0 1024).2 ≠ 0 then (j, (numL s 0 1024).2) else (setC j 10 (numL s 0 1024).1, 0) := by
    have he : entryJ [98, 101, 115, 116] = [(10, 0, 1024)] := by decide
    unfold numsJ
    rw [he]
    unfold takeC
    by_cases h1 : (numL s 0 1024).2 ≠ 0
    · simp only [if_pos h1]
    · simp only [if_neg h1]
      unfold takeC
      simp only [ne_eq, not_true, if_false]
      rw [if_neg (by show ¬ j.od < j.stop; omega)]
  have hb1 := numL_lt (w := s) (least := 0) (most := 1024)
  rw [hv]
  clear hv
  unfold numOut at HNs
  generalize numL s 0 1024 = r1 at *
  obtain ⟨n1, e1⟩ := r1
  simp only at hb1 HNs ⊢
  obtain ⟨W0, hW0⟩ : ∃ W0, (w.alloc (.cells (jobCs j so sc) 30)).alloc (.cells zeroCs 30) = W0 := ⟨_, rfl⟩
  have B0 := Lib.hid (show Below w.heap.size w W0 by rw [← hW0]; exact (ext_alloc w _).alloc (by simp) _)
  have S0 := Lib.hid (show W0.heap.size = w.heap.size + 2 by rw [← hW0]; simp)
  have R0 := Lib.hid (show W0.heap[w.heap.size]? = some (.cells (jobCs j so sc) 30 (0, 0)) by rw [← hW0]; exact heap_alloc2_old _ _ _)
  have Z0 := Lib.hid (show W0.heap[w.heap.size + 1]? = some (.cells zeroCs 30 (0, 0)) by rw [← hW0]; exact heap_alloc2_new _ _ _)
  have HIj := Lib.hid (jb_info19 j so sc)
  have H1j := Lib.hid (jb_one19 j so sc)
  have Hsrc := Lib.hid hsrc
  have HW0 := Lib.hid hW0
  unfold zeroCs at HW0
  clear hW0 hsrc
  by_cases h1 : e1 ≠ 0
  · have d1 : ((e1 : Int) != 0) = true := by simp; omega
    have d1' : (e1 != 0) = true := by simp; omega
    rw [if_pos h1]
    have H1 := Lib.hid h1
    clear h1 hle
    obtain ⟨jc, hjc⟩ : ∃ jc, jobCs j so sc = jc := ⟨_, rfl⟩
    have Hjc := Lib.hid hjc
    rw [hjc] at R0 HIj H1j HW0
    have Hz := Lib.hid (show jc.size = zeroCs.size by rw [← hjc]; rfl)
    rw [hjc]
    clear hjc
    go_enter Try.func50, Try.ntmps50
    go_upto_region 1 with fail
    rw [HW0.out]
    go_wp2_with
    (first
          | (go_at_call 60; (with_reducible refine (HNs.out _).mono ?_); rintro e w1 ⟨rfl, rfl⟩)
          | (refine wpList_load_row rfl _ _ rfl w.heap.size rfl 30 _ (0, 0) _ R0.out Try.underlying30 rfl HIj.out ?_)
          | (refine wpList_store_row rfl _ _ _ rfl rfl rfl Z0.out Hz.out HIj.out H1j.out ?_; intro w3 hg3 ho3; have HG := Lib.hid hg3; have HO := Lib.hid ho3; clear hg3 ho3))
    refine bodyPost_ret (results_row_tmp rfl _ _ (w.heap.size + 1) 30 _ (0, 0) _ rfl HG.out Try.underlying30 rfl HIj.out) rfl ?_
    exact ⟨j, so, sc, by rw [Hjc.out]; rfl, fun h0 => absurd h0 H1.out, B0.out.trans (HO.out.below (by have := B0.out.size; omega) (fun k hk e => by omega))⟩
  have d1 : ((e1 : Int) != 0) = false := by simp; omega
  have d1' : (e1 != 0) = false := by simp; omega
  rw [if_neg h1]
  clear h1 hle
  have u0 : IntKind.u64.wrap (n1 : Int) = (n1 : Int) := IntWalk.u64_in _ (by omega)
  have u1 : IntKind.u32.wrap (n1 : Int) = (n1 : Int) := IntWalk.u32_in _ (by omega)
  have u2 : (n1 : Int).tmod 4294967296 = (n1 : Int) := tmod32 (by omega)
  obtain ⟨J2, hJ2⟩ : ∃ J2, setC j 10 n1 = J2 := ⟨_, rfl⟩
  have HJs := Lib.hid (show J2.src = j.src by rw [← hJ2, setC_src])
  obtain ⟨jc, hjc⟩ : ∃ jc, jobCs J2 so sc = jc := ⟨_, rfl⟩
  have Hjc := Lib.hid hjc
  have HIj := Lib.hid (jb_info19 J2 so sc)
  have H1j := Lib.hid (jb_one19 J2 so sc)
  have Hz := Lib.hid (show jc.size = zeroCs.size by rw [← hjc]; rfl)
  have R2 := Lib.hid (row_num (c := 10) R0.out (by decide) n1)
  have Z2 := Lib.hid (show (W0.setCell ⟨w.heap.size, 10, none⟩ (.int .u32 (n1 : Nat))).heap[w.heap.size + 1]? = some (.cells zeroCs 30 (0, 0)) from (row_other _ (by omega)).trans Z0.out)
  rw [hJ2, hjc] at R2
  rw [hjc] at HIj H1j
  rw [hJ2]
  have k1 : W0.cell? ⟨w.heap.size, 10, none⟩ = some (.int .u32 (jobC j 10 : Nat)) := (cell_of_row _ _ _ _ _ _ R0.out).trans (jobCs_at (by decide))
  have k3 := frozen_of_row W0 w.heap.size 10 _ _ R0.out
  generalize jobC j 10 = o1 at k1
  clear hjc hJ2 hb1
  go_enter Try.func50, Try.ntmps50
  go_upto_region 1 with fail
  rw [HW0.out]
  go_wp2_with
  (first
        | (go_at_call 60; (with_reducible refine (HNs.out _).mono ?_); rintro e w1 ⟨rfl, rfl⟩)
        | (refine wpList_load_row rfl _ _ rfl w.heap.size rfl 30 _ (0, 0) _ R2.out Try.underlying30 rfl HIj.out ?_)
        | (refine wpList_store_row rfl _ _ _ rfl rfl rfl Z2.out Hz.out HIj.out H1j.out ?_; intro w3 hg3 ho3; have HG := Lib.hid hg3; have HO := Lib.hid ho3; clear hg3 ho3))
  refine bodyPost_ret (results_row_tmp rfl _ _ (w.heap.size + 1) 30 _ (0, 0) _ rfl HG.out Try.underlying30 rfl HIj.out) rfl ?_
  have hBV := (Only.refl (fun k => k = w.heap.size) w1).setCell (p := ⟨w.heap.size, 10, none⟩) (fun _ => rfl) (.int .u32 (n1 : Nat))
  have hAll := (B0.out.trans (hBV.below (by have := S0.out; omega) (fun k hk e => by omega))).trans (HO.out.below (by have := S0.out; simp; omega) (fun k hk e => by omega))
  exact ⟨J2, so, sc, by rw [Hjc.out]; rfl, fun _ => ⟨rfl, by rw [HJs.out]; exact Hsrc.out.ext hAll, .inl ⟨rfl, HJs.out⟩⟩, hAll⟩
set_option maxRecDepth 100000 in
set_option maxHeartbeats 6400000 in
theorem rone_shard (j : JobD) (hle : j.stop ≤ j.od) (so : Option Addr) (sc : Nat) (s : W8) (hs : s.length ≤ 1073741824) (w : World) (hsrc : Rd w so j.src.length (u32s j.src)) :
    Calls Try.prog 50 #[.agg (jobCs j so sc), .string (bs [115, 104, 97, 114, 100]), .string (bs s)] w (LineRet so j.src (numsJ j [115, 104, 97, 114, 100] [s]) w) := by
  have HNs := Lib.hid (fun W => (show Calls Try.prog 60 #[.string (bs s), .int .u64 1, .int .u64 65536] W fun e w' => e = numOut (numL s 1 65536) ∧ w' = W from rnumber19_any s 1 65536 hs (by omega) W))
  have hv : numsJ j [115, 104, 97, 114, 100] [s] = if (numL s 1 65536).2 ≠ 0 then (j, (numL s 1 65536).2) else (setC j 11 (numL s 1 65536).1, 0) := by
    have he : entryJ [115, 104, 97, 114, 100] = [(11, 1, 65536)] := by decide
    unfold numsJ
    rw [he]
    unfold takeC
    by_cases h1 : (numL s 1 65536).2 ≠ 0
    · simp only [if_pos h1]
    · simp only [if_neg h1]
      unfold takeC
      simp only [ne_eq, not_true, if_false]
      rw [if_neg (by show ¬ j.od < j.stop; omega)]
  have hb1 := numL_lt (w := s) (least := 1) (most := 65536)
  rw [hv]
  clear hv
  unfold numOut at HNs
  generalize numL s 1 65536 = r1 at *
  obtain ⟨n1, e1⟩ := r1
  simp only at hb1 HNs ⊢
  obtain ⟨W0, hW0⟩ : ∃ W0, (w.alloc (.cells (jobCs j so sc) 30)).alloc (.cells zeroCs 30) = W0 := ⟨_, rfl⟩
  have B0 := Lib.hid (show Below w.heap.size w W0 by rw [← hW0]; exact (ext_alloc w _).alloc (by simp) _)
  have S0 := Lib.hid (show W0.heap.size = w.heap.size + 2 by rw [← hW0]; simp)
  have R0 := Lib.hid (show W0.heap[w.heap.size]? = some (.cells (jobCs j so sc) 30 (0, 0)) by rw [← hW0]; exact heap_alloc2_old _ _ _)
  have Z0 := Lib.hid (show W0.heap[w.heap.size + 1]? = some (.cells zeroCs 30 (0, 0)) by rw [← hW0]; exact heap_alloc2_new _ _ _)
  have HIj := Lib.hid (jb_info19 j so sc)
  have H1j := Lib.hid (jb_one19 j so sc)
  have Hsrc := Lib.hid hsrc
  have HW0 := Lib.hid hW0
  unfold zeroCs at HW0
  clear hW0 hsrc
  by_cases h1 : e1 ≠ 0
  · have d1 : ((e1 : Int) != 0) = true := by simp; omega
    have d1' : (e1 != 0) = true := by simp; omega
    rw [if_pos h1]
    have H1 := Lib.hid h1
    clear h1 hle
    obtain ⟨jc, hjc⟩ : ∃ jc, jobCs j so sc = jc := ⟨_, rfl⟩
    have Hjc := Lib.hid hjc
    rw [hjc] at R0 HIj H1j HW0
    have Hz := Lib.hid (show jc.size = zeroCs.size by rw [← hjc]; rfl)
    rw [hjc]
    clear hjc
    go_enter Try.func50, Try.ntmps50
    go_upto_region 1 with fail
    rw [HW0.out]
    go_wp2_with
    (first
          | (go_at_call 60; (with_reducible refine (HNs.out _).mono ?_); rintro e w1 ⟨rfl, rfl⟩)
          | (refine wpList_load_row rfl _ _ rfl w.heap.size rfl 30 _ (0, 0) _ R0.out Try.underlying30 rfl HIj.out ?_)
          | (refine wpList_store_row rfl _ _ _ rfl rfl rfl Z0.out Hz.out HIj.out H1j.out ?_; intro w3 hg3 ho3; have HG := Lib.hid hg3; have HO := Lib.hid ho3; clear hg3 ho3))
    refine bodyPost_ret (results_row_tmp rfl _ _ (w.heap.size + 1) 30 _ (0, 0) _ rfl HG.out Try.underlying30 rfl HIj.out) rfl ?_
    exact ⟨j, so, sc, by rw [Hjc.out]; rfl, fun h0 => absurd h0 H1.out, B0.out.trans (HO.out.below (by have := B0.out.size; omega) (fun k hk e => by omega))⟩
  have d1 : ((e1 : Int) != 0) = false := by simp; omega
  have d1' : (e1 != 0) = false := by simp; omega
  rw [if_neg h1]
  clear h1 hle
  have u0 : IntKind.u64.wrap (n1 : Int) = (n1 : Int) := IntWalk.u64_in _ (by omega)
  have u1 : IntKind.u32.wrap (n1 : Int) = (n1 : Int) := IntWalk.u32_in _ (by omega)
  have u2 : (n1 : Int).tmod 4294967296 = (n1 : Int) := tmod32 (by omega)
  obtain ⟨J2, hJ2⟩ : ∃ J2, setC j 11 n1 = J2 := ⟨_, rfl⟩
  have HJs := Lib.hid (show J2.src = j.src by rw [← hJ2, setC_src])
  obtain ⟨jc, hjc⟩ : ∃ jc, jobCs J2 so sc = jc := ⟨_, rfl⟩
  have Hjc := Lib.hid hjc
  have HIj := Lib.hid (jb_info19 J2 so sc)
  have H1j := Lib.hid (jb_one19 J2 so sc)
  have Hz := Lib.hid (show jc.size = zeroCs.size by rw [← hjc]; rfl)
  have R2 := Lib.hid (row_num (c := 11) R0.out (by decide) n1)
  have Z2 := Lib.hid (show (W0.setCell ⟨w.heap.size, 11, none⟩ (.int .u32 (n1 : Nat))).heap[w.heap.size + 1]? = some (.cells zeroCs 30 (0, 0)) from (row_other _ (by omega)).trans Z0.out)
  rw [hJ2, hjc] at R2
  rw [hjc] at HIj H1j
  rw [hJ2]
  have k1 : W0.cell? ⟨w.heap.size, 11, none⟩ = some (.int .u32 (jobC j 11 : Nat)) := (cell_of_row _ _ _ _ _ _ R0.out).trans (jobCs_at (by decide))
  have k3 := frozen_of_row W0 w.heap.size 11 _ _ R0.out
  generalize jobC j 11 = o1 at k1
  clear hjc hJ2 hb1
  go_enter Try.func50, Try.ntmps50
  go_upto_region 1 with fail
  rw [HW0.out]
  go_wp2_with
  (first
        | (go_at_call 60; (with_reducible refine (HNs.out _).mono ?_); rintro e w1 ⟨rfl, rfl⟩)
        | (refine wpList_load_row rfl _ _ rfl w.heap.size rfl 30 _ (0, 0) _ R2.out Try.underlying30 rfl HIj.out ?_)
        | (refine wpList_store_row rfl _ _ _ rfl rfl rfl Z2.out Hz.out HIj.out H1j.out ?_; intro w3 hg3 ho3; have HG := Lib.hid hg3; have HO := Lib.hid ho3; clear hg3 ho3))
  refine bodyPost_ret (results_row_tmp rfl _ _ (w.heap.size + 1) 30 _ (0, 0) _ rfl HG.out Try.underlying30 rfl HIj.out) rfl ?_
  have hBV := (Only.refl (fun k => k = w.heap.size) w1).setCell (p := ⟨w.heap.size, 11, none⟩) (fun _ => rfl) (.int .u32 (n1 : Nat))
  have hAll := (B0.out.trans (hBV.below (by have := S0.out; omega) (fun k hk e => by omega))).trans (HO.out.below (by have := S0.out; simp; omega) (fun k hk e => by omega))
  exact ⟨J2, so, sc, by rw [Hjc.out]; rfl, fun _ => ⟨rfl, by rw [HJs.out]; exact Hsrc.out.ext hAll, .inl ⟨rfl, HJs.out⟩⟩, hAll⟩
set_option maxRecDepth 100000 in
set_option maxHeartbeats 6400000 in
theorem rone_room (j : JobD) (hle : j.stop ≤ j.od) (so : Option Addr) (sc : Nat) (s : W8) (hs : s.length ≤ 1073741824) (w : World) (hsrc : Rd w so j.src.length (u32s j.src)) :
    Calls Try.prog 50 #[.agg (jobCs j so sc), .string (bs [114, 111, 111, 109]), .string (bs s)] w (LineRet so j.src (numsJ j [114, 111, 111, 109] [s]) w) := by
  have HNs := Lib.hid (fun W => (show Calls Try.prog 60 #[.string (bs s), .int .u64 1, .int .u64 16777216] W fun e w' => e = numOut (numL s 1 16777216) ∧ w' = W from rnumber19_any s 1 16777216 hs (by omega) W))
  have hv : numsJ j [114, 111, 111, 109] [s] = if (numL s 1 16777216).2 ≠ 0 then (j, (numL s 1 16777216).2) else (setC j 12 (numL s 1 16777216).1, 0) := by
    have he : entryJ [114, 111, 111, 109] = [(12, 1, 16777216)] := by decide
    unfold numsJ
    rw [he]
    unfold takeC
    by_cases h1 : (numL s 1 16777216).2 ≠ 0
    · simp only [if_pos h1]
    · simp only [if_neg h1]
      unfold takeC
      simp only [ne_eq, not_true, if_false]
      rw [if_neg (by show ¬ j.od < j.stop; omega)]
  have hb1 := numL_lt (w := s) (least := 1) (most := 16777216)
  rw [hv]
  clear hv
  unfold numOut at HNs
  generalize numL s 1 16777216 = r1 at *
  obtain ⟨n1, e1⟩ := r1
  simp only at hb1 HNs ⊢
  obtain ⟨W0, hW0⟩ : ∃ W0, (w.alloc (.cells (jobCs j so sc) 30)).alloc (.cells zeroCs 30) = W0 := ⟨_, rfl⟩
  have B0 := Lib.hid (show Below w.heap.size w W0 by rw [← hW0]; exact (ext_alloc w _).alloc (by simp) _)
  have S0 := Lib.hid (show W0.heap.size = w.heap.size + 2 by rw [← hW0]; simp)
  have R0 := Lib.hid (show W0.heap[w.heap.size]? = some (.cells (jobCs j so sc) 30 (0, 0)) by rw [← hW0]; exact heap_alloc2_old _ _ _)
  have Z0 := Lib.hid (show W0.heap[w.heap.size + 1]? = some (.cells zeroCs 30 (0, 0)) by rw [← hW0]; exact heap_alloc2_new _ _ _)
  have HIj := Lib.hid (jb_info19 j so sc)
  have H1j := Lib.hid (jb_one19 j so sc)
  have Hsrc := Lib.hid hsrc
  have HW0 := Lib.hid hW0
  unfold zeroCs at HW0
  clear hW0 hsrc
  by_cases h1 : e1 ≠ 0
  · have d1 : ((e1 : Int) != 0) = true := by simp; omega
    have d1' : (e1 != 0) = true := by simp; omega
    rw [if_pos h1]
    have H1 := Lib.hid h1
    clear h1 hle
    obtain ⟨jc, hjc⟩ : ∃ jc, jobCs j so sc = jc := ⟨_, rfl⟩
    have Hjc := Lib.hid hjc
    rw [hjc] at R0 HIj H1j HW0
    have Hz := Lib.hid (show jc.size = zeroCs.size by rw [← hjc]; rfl)
    rw [hjc]
    clear hjc
    go_enter Try.func50, Try.ntmps50
    go_upto_region 1 with fail
    rw [HW0.out]
    go_wp2_with
    (first
          | (go_at_call 60; (with_reducible refine (HNs.out _).mono ?_); rintro e w1 ⟨rfl, rfl⟩)
          | (refine wpList_load_row rfl _ _ rfl w.heap.size rfl 30 _ (0, 0) _ R0.out Try.underlying30 rfl HIj.out ?_)
          | (refine wpList_store_row rfl _ _ _ rfl rfl rfl Z0.out Hz.out HIj.out H1j.out ?_; intro w3 hg3 ho3; have HG := Lib.hid hg3; have HO := Lib.hid ho3; clear hg3 ho3))
    refine bodyPost_ret (results_row_tmp rfl _ _ (w.heap.size + 1) 30 _ (0, 0) _ rfl HG.out Try.underlying30 rfl HIj.out) rfl ?_
    exact ⟨j, so, sc, by rw [Hjc.out]; rfl, fun h0 => absurd h0 H1.out, B0.out.trans (HO.out.below (by have := B0.out.size; omega) (fun k hk e => by omega))⟩
  have d1 : ((e1 : Int) != 0) = false := by simp; omega
  have d1' : (e1 != 0) = false := by simp; omega
  rw [if_neg h1]
  clear h1 hle
  have u0 : IntKind.u64.wrap (n1 : Int) = (n1 : Int) := IntWalk.u64_in _ (by omega)
  have u1 : IntKind.u32.wrap (n1 : Int) = (n1 : Int) := IntWalk.u32_in _ (by omega)
  have u2 : (n1 : Int).tmod 4294967296 = (n1 : Int) := tmod32 (by omega)
  obtain ⟨J2, hJ2⟩ : ∃ J2, setC j 12 n1 = J2 := ⟨_, rfl⟩
  have HJs := Lib.hid (show J2.src = j.src by rw [← hJ2, setC_src])
  obtain ⟨jc, hjc⟩ : ∃ jc, jobCs J2 so sc = jc := ⟨_, rfl⟩
  have Hjc := Lib.hid hjc
  have HIj := Lib.hid (jb_info19 J2 so sc)
  have H1j := Lib.hid (jb_one19 J2 so sc)
  have Hz := Lib.hid (show jc.size = zeroCs.size by rw [← hjc]; rfl)
  have R2 := Lib.hid (row_num (c := 12) R0.out (by decide) n1)
  have Z2 := Lib.hid (show (W0.setCell ⟨w.heap.size, 12, none⟩ (.int .u32 (n1 : Nat))).heap[w.heap.size + 1]? = some (.cells zeroCs 30 (0, 0)) from (row_other _ (by omega)).trans Z0.out)
  rw [hJ2, hjc] at R2
  rw [hjc] at HIj H1j
  rw [hJ2]
  have k1 : W0.cell? ⟨w.heap.size, 12, none⟩ = some (.int .u32 (jobC j 12 : Nat)) := (cell_of_row _ _ _ _ _ _ R0.out).trans (jobCs_at (by decide))
  have k3 := frozen_of_row W0 w.heap.size 12 _ _ R0.out
  generalize jobC j 12 = o1 at k1
  clear hjc hJ2 hb1
  go_enter Try.func50, Try.ntmps50
  go_upto_region 1 with fail
  rw [HW0.out]
  go_wp2_with
  (first
        | (go_at_call 60; (with_reducible refine (HNs.out _).mono ?_); rintro e w1 ⟨rfl, rfl⟩)
        | (refine wpList_load_row rfl _ _ rfl w.heap.size rfl 30 _ (0, 0) _ R2.out Try.underlying30 rfl HIj.out ?_)
        | (refine wpList_store_row rfl _ _ _ rfl rfl rfl Z2.out Hz.out HIj.out H1j.out ?_; intro w3 hg3 ho3; have HG := Lib.hid hg3; have HO := Lib.hid ho3; clear hg3 ho3))
  refine bodyPost_ret (results_row_tmp rfl _ _ (w.heap.size + 1) 30 _ (0, 0) _ rfl HG.out Try.underlying30 rfl HIj.out) rfl ?_
  have hBV := (Only.refl (fun k => k = w.heap.size) w1).setCell (p := ⟨w.heap.size, 12, none⟩) (fun _ => rfl) (.int .u32 (n1 : Nat))
  have hAll := (B0.out.trans (hBV.below (by have := S0.out; omega) (fun k hk e => by omega))).trans (HO.out.below (by have := S0.out; simp; omega) (fun k hk e => by omega))
  exact ⟨J2, so, sc, by rw [Hjc.out]; rfl, fun _ => ⟨rfl, by rw [HJs.out]; exact Hsrc.out.ext hAll, .inl ⟨rfl, HJs.out⟩⟩, hAll⟩
set_option maxRecDepth 100000 in
set_option maxHeartbeats 6400000 in
theorem rone_pool (j : JobD) (hle : j.stop ≤ j.od) (so : Option Addr) (sc : Nat) (s : W8) (hs : s.length ≤ 1073741824) (w : World) (hsrc : Rd w so j.src.length (u32s j.src)) :
    Calls Try.prog 50 #[.agg (jobCs j so sc), .string (bs [112, 111, 111, 108]), .string (bs s)] w (LineRet so j.src (numsJ j [112, 111, 111, 108] [s]) w) := by
  have HNs := Lib.hid (fun W => (show Calls Try.prog 60 #[.string (bs s), .int .u64 2, .int .u64 65536] W fun e w' => e = numOut (numL s 2 65536) ∧ w' = W from rnumber19_any s 2 65536 hs (by omega) W))
  have hv : numsJ j [112, 111, 111, 108] [s] = if (numL s 2 65536).2 ≠ 0 then (j, (numL s 2 65536).2) else (setC j 13 (numL s 2 65536).1, 0) := by
    have he : entryJ [112, 111, 111, 108] = [(13, 2, 65536)] := by decide
    unfold numsJ
    rw [he]
    unfold takeC
    by_cases h1 : (numL s 2 65536).2 ≠ 0
    · simp only [if_pos h1]
    · simp only [if_neg h1]
      unfold takeC
      simp only [ne_eq, not_true, if_false]
      rw [if_neg (by show ¬ j.od < j.stop; omega)]
  have hb1 := numL_lt (w := s) (least := 2) (most := 65536)
  rw [hv]
  clear hv
  unfold numOut at HNs
  generalize numL s 2 65536 = r1 at *
  obtain ⟨n1, e1⟩ := r1
  simp only at hb1 HNs ⊢
  obtain ⟨W0, hW0⟩ : ∃ W0, (w.alloc (.cells (jobCs j so sc) 30)).alloc (.cells zeroCs 30) = W0 := ⟨_, rfl⟩
  have B0 := Lib.hid (show Below w.heap.size w W0 by rw [← hW0]; exact (ext_alloc w _).alloc (by simp) _)
  have S0 := Lib.hid (show W0.heap.size = w.heap.size + 2 by rw [← hW0]; simp)
  have R0 := Lib.hid (show W0.heap[w.heap.size]? = some (.cells (jobCs j so sc) 30 (0, 0)) by rw [← hW0]; exact heap_alloc2_old _ _ _)
  have Z0 := Lib.hid (show W0.heap[w.heap.size + 1]? = some (.cells zeroCs 30 (0, 0)) by rw [← hW0]; exact heap_alloc2_new _ _ _)
  have HIj := Lib.hid (jb_info19 j so sc)
  have H1j := Lib.hid (jb_one19 j so sc)
  have Hsrc := Lib.hid hsrc
  have HW0 := Lib.hid hW0
  unfold zeroCs at HW0
  clear hW0 hsrc
  by_cases h1 : e1 ≠ 0
  · have d1 : ((e1 : Int) != 0) = true := by simp; omega
    have d1' : (e1 != 0) = true := by simp; omega
    rw [if_pos h1]
    have H1 := Lib.hid h1
    clear h1 hle
    obtain ⟨jc, hjc⟩ : ∃ jc, jobCs j so sc = jc := ⟨_, rfl⟩
    have Hjc := Lib.hid hjc
    rw [hjc] at R0 HIj H1j HW0
    have Hz := Lib.hid (show jc.size = zeroCs.size by rw [← hjc]; rfl)
    rw [hjc]
    clear hjc
    go_enter Try.func50, Try.ntmps50
    go_upto_region 1 with fail
    rw [HW0.out]
    go_wp2_with
    (first
          | (go_at_call 60; (with_reducible refine (HNs.out _).mono ?_); rintro e w1 ⟨rfl, rfl⟩)
          | (refine wpList_load_row rfl _ _ rfl w.heap.size rfl 30 _ (0, 0) _ R0.out Try.underlying30 rfl HIj.out ?_)
          | (refine wpList_store_row rfl _ _ _ rfl rfl rfl Z0.out Hz.out HIj.out H1j.out ?_; intro w3 hg3 ho3; have HG := Lib.hid hg3; have HO := Lib.hid ho3; clear hg3 ho3))
    refine bodyPost_ret (results_row_tmp rfl _ _ (w.heap.size + 1) 30 _ (0, 0) _ rfl HG.out Try.underlying30 rfl HIj.out) rfl ?_
    exact ⟨j, so, sc, by rw [Hjc.out]; rfl, fun h0 => absurd h0 H1.out, B0.out.trans (HO.out.below (by have := B0.out.size; omega) (fun k hk e => by omega))⟩
  have d1 : ((e1 : Int) != 0) = false := by simp; omega
  have d1' : (e1 != 0) = false := by simp; omega
  rw [if_neg h1]
  clear h1 hle
  have u0 : IntKind.u64.wrap (n1 : Int) = (n1 : Int) := IntWalk.u64_in _ (by omega)
  have u1 : IntKind.u32.wrap (n1 : Int) = (n1 : Int) := IntWalk.u32_in _ (by omega)
  have u2 : (n1 : Int).tmod 4294967296 = (n1 : Int) := tmod32 (by omega)
  obtain ⟨J2, hJ2⟩ : ∃ J2, setC j 13 n1 = J2 := ⟨_, rfl⟩
  have HJs := Lib.hid (show J2.src = j.src by rw [← hJ2, setC_src])
  obtain ⟨jc, hjc⟩ : ∃ jc, jobCs J2 so sc = jc := ⟨_, rfl⟩
  have Hjc := Lib.hid hjc
  have HIj := Lib.hid (jb_info19 J2 so sc)
  have H1j := Lib.hid (jb_one19 J2 so sc)
  have Hz := Lib.hid (show jc.size = zeroCs.size by rw [← hjc]; rfl)
  have R2 := Lib.hid (row_num (c := 13) R0.out (by decide) n1)
  have Z2 := Lib.hid (show (W0.setCell ⟨w.heap.size, 13, none⟩ (.int .u32 (n1 : Nat))).heap[w.heap.size + 1]? = some (.cells zeroCs 30 (0, 0)) from (row_other _ (by omega)).trans Z0.out)
  rw [hJ2, hjc] at R2
  rw [hjc] at HIj H1j
  rw [hJ2]
  have k1 : W0.cell? ⟨w.heap.size, 13, none⟩ = some (.int .u32 (jobC j 13 : Nat)) := (cell_of_row _ _ _ _ _ _ R0.out).trans (jobCs_at (by decide))
  have k3 := frozen_of_row W0 w.heap.size 13 _ _ R0.out
  generalize jobC j 13 = o1 at k1
  clear hjc hJ2 hb1
  go_enter Try.func50, Try.ntmps50
  go_upto_region 1 with fail
  rw [HW0.out]
  go_wp2_with
  (first
        | (go_at_call 60; (with_reducible refine (HNs.out _).mono ?_); rintro e w1 ⟨rfl, rfl⟩)
        | (refine wpList_load_row rfl _ _ rfl w.heap.size rfl 30 _ (0, 0) _ R2.out Try.underlying30 rfl HIj.out ?_)
        | (refine wpList_store_row rfl _ _ _ rfl rfl rfl Z2.out Hz.out HIj.out H1j.out ?_; intro w3 hg3 ho3; have HG := Lib.hid hg3; have HO := Lib.hid ho3; clear hg3 ho3))
  refine bodyPost_ret (results_row_tmp rfl _ _ (w.heap.size + 1) 30 _ (0, 0) _ rfl HG.out Try.underlying30 rfl HIj.out) rfl ?_
  have hBV := (Only.refl (fun k => k = w.heap.size) w1).setCell (p := ⟨w.heap.size, 13, none⟩) (fun _ => rfl) (.int .u32 (n1 : Nat))
  have hAll := (B0.out.trans (hBV.below (by have := S0.out; omega) (fun k hk e => by omega))).trans (HO.out.below (by have := S0.out; simp; omega) (fun k hk e => by omega))
  exact ⟨J2, so, sc, by rw [Hjc.out]; rfl, fun _ => ⟨rfl, by rw [HJs.out]; exact Hsrc.out.ext hAll, .inl ⟨rfl, HJs.out⟩⟩, hAll⟩
set_option maxRecDepth 100000 in
set_option maxHeartbeats 6400000 in
theorem rone_sort (j : JobD) (hle : j.stop ≤ j.od) (so : Option Addr) (sc : Nat) (s : W8) (hs : s.length ≤ 1073741824) (w : World) (hsrc : Rd w so j.src.length (u32s j.src)) :
    Calls Try.prog 50 #[.agg (jobCs j so sc), .string (bs [115, 111, 114, 116]), .string (bs s)] w (LineRet so j.src (numsJ j [115, 111, 114, 116] [s]) w) := by
  have HNs := Lib.hid (fun W => (show Calls Try.prog 60 #[.string (bs s), .int .u64 1, .int .u64 4096] W fun e w' => e = numOut (numL s 1 4096) ∧ w' = W from rnumber19_any s 1 4096 hs (by omega) W))
  have hv : numsJ j [115, 111, 114, 116] [s] = if (numL s 1 4096).2 ≠ 0 then (j, (numL s 1 4096).2) else (setC j 14 (numL s 1 4096).1, 0) := by
    have he : entryJ [115, 111, 114, 116] = [(14, 1, 4096)] := by decide
    unfold numsJ
    rw [he]
    unfold takeC
    by_cases h1 : (numL s 1 4096).2 ≠ 0
    · simp only [if_pos h1]
    · simp only [if_neg h1]
      unfold takeC
      simp only [ne_eq, not_true, if_false]
      rw [if_neg (by show ¬ j.od < j.stop; omega)]
  have hb1 := numL_lt (w := s) (least := 1) (most := 4096)
  rw [hv]
  clear hv
  unfold numOut at HNs
  generalize numL s 1 4096 = r1 at *
  obtain ⟨n1, e1⟩ := r1
  simp only at hb1 HNs ⊢
  obtain ⟨W0, hW0⟩ : ∃ W0, (w.alloc (.cells (jobCs j so sc) 30)).alloc (.cells zeroCs 30) = W0 := ⟨_, rfl⟩
  have B0 := Lib.hid (show Below w.heap.size w W0 by rw [← hW0]; exact (ext_alloc w _).alloc (by simp) _)
  have S0 := Lib.hid (show W0.heap.size = w.heap.size + 2 by rw [← hW0]; simp)
  have R0 := Lib.hid (show W0.heap[w.heap.size]? = some (.cells (jobCs j so sc) 30 (0, 0)) by rw [← hW0]; exact heap_alloc2_old _ _ _)
  have Z0 := Lib.hid (show W0.heap[w.heap.size + 1]? = some (.cells zeroCs 30 (0, 0)) by rw [← hW0]; exact heap_alloc2_new _ _ _)
  have HIj := Lib.hid (jb_info19 j so sc)
  have H1j := Lib.hid (jb_one19 j so sc)
  have Hsrc := Lib.hid hsrc
  have HW0 := Lib.hid hW0
  unfold zeroCs at HW0
  clear hW0 hsrc
  by_cases h1 : e1 ≠ 0
  · have d1 : ((e1 : Int) != 0) = true := by simp; omega
    have d1' : (e1 != 0) = true := by simp; omega
    rw [if_pos h1]
    have H1 := Lib.hid h1
    clear h1 hle
    obtain ⟨jc, hjc⟩ : ∃ jc, jobCs j so sc = jc := ⟨_, rfl⟩
    have Hjc := Lib.hid hjc
    rw [hjc] at R0 HIj H1j HW0
    have Hz := Lib.hid (show jc.size = zeroCs.size by rw [← hjc]; rfl)
    rw [hjc]
    clear hjc
    go_enter Try.func50, Try.ntmps50
    go_upto_region 1 with fail
    rw [HW0.out]
    go_wp2_with
    (first
          | (go_at_call 60; (with_reducible refine (HNs.out _).mono ?_); rintro e w1 ⟨rfl, rfl⟩)
          | (refine wpList_load_row rfl _ _ rfl w.heap.size rfl 30 _ (0, 0) _ R0.out Try.underlying30 rfl HIj.out ?_)
          | (refine wpList_store_row rfl _ _ _ rfl rfl rfl Z0.out Hz.out HIj.out H1j.out ?_; intro w3 hg3 ho3; have HG := Lib.hid hg3; have HO := Lib.hid ho3; clear hg3 ho3))
    refine bodyPost_ret (results_row_tmp rfl _ _ (w.heap.size + 1) 30 _ (0, 0) _ rfl HG.out Try.underlying30 rfl HIj.out) rfl ?_
    exact ⟨j, so, sc, by rw [Hjc.out]; rfl, fun h0 => absurd h0 H1.out, B0.out.trans (HO.out.below (by have := B0.out.size; omega) (fun k hk e => by omega))⟩
  have d1 : ((e1 : Int) != 0) = false := by simp; omega
  have d1' : (e1 != 0) = false := by simp; omega
  rw [if_neg h1]
  clear h1 hle
  have u0 : IntKind.u64.wrap (n1 : Int) = (n1 : Int) := IntWalk.u64_in _ (by omega)
  have u1 : IntKind.u32.wrap (n1 : Int) = (n1 : Int) := IntWalk.u32_in _ (by omega)
  have u2 : (n1 : Int).tmod 4294967296 = (n1 : Int) := tmod32 (by omega)
  obtain ⟨J2, hJ2⟩ : ∃ J2, setC j 14 n1 = J2 := ⟨_, rfl⟩
  have HJs := Lib.hid (show J2.src = j.src by rw [← hJ2, setC_src])
  obtain ⟨jc, hjc⟩ : ∃ jc, jobCs J2 so sc = jc := ⟨_, rfl⟩
  have Hjc := Lib.hid hjc
  have HIj := Lib.hid (jb_info19 J2 so sc)
  have H1j := Lib.hid (jb_one19 J2 so sc)
  have Hz := Lib.hid (show jc.size = zeroCs.size by rw [← hjc]; rfl)
  have R2 := Lib.hid (row_num (c := 14) R0.out (by decide) n1)
  have Z2 := Lib.hid (show (W0.setCell ⟨w.heap.size, 14, none⟩ (.int .u32 (n1 : Nat))).heap[w.heap.size + 1]? = some (.cells zeroCs 30 (0, 0)) from (row_other _ (by omega)).trans Z0.out)
  rw [hJ2, hjc] at R2
  rw [hjc] at HIj H1j
  rw [hJ2]
  have k1 : W0.cell? ⟨w.heap.size, 14, none⟩ = some (.int .u32 (jobC j 14 : Nat)) := (cell_of_row _ _ _ _ _ _ R0.out).trans (jobCs_at (by decide))
  have k3 := frozen_of_row W0 w.heap.size 14 _ _ R0.out
  generalize jobC j 14 = o1 at k1
  clear hjc hJ2 hb1
  go_enter Try.func50, Try.ntmps50
  go_upto_region 1 with fail
  rw [HW0.out]
  go_wp2_with
  (first
        | (go_at_call 60; (with_reducible refine (HNs.out _).mono ?_); rintro e w1 ⟨rfl, rfl⟩)
        | (refine wpList_load_row rfl _ _ rfl w.heap.size rfl 30 _ (0, 0) _ R2.out Try.underlying30 rfl HIj.out ?_)
        | (refine wpList_store_row rfl _ _ _ rfl rfl rfl Z2.out Hz.out HIj.out H1j.out ?_; intro w3 hg3 ho3; have HG := Lib.hid hg3; have HO := Lib.hid ho3; clear hg3 ho3))
  refine bodyPost_ret (results_row_tmp rfl _ _ (w.heap.size + 1) 30 _ (0, 0) _ rfl HG.out Try.underlying30 rfl HIj.out) rfl ?_
  have hBV := (Only.refl (fun k => k = w.heap.size) w1).setCell (p := ⟨w.heap.size, 14, none⟩) (fun _ => rfl) (.int .u32 (n1 : Nat))
  have hAll := (B0.out.trans (hBV.below (by have := S0.out; omega) (fun k hk e => by omega))).trans (HO.out.below (by have := S0.out; simp; omega) (fun k hk e => by omega))
  exact ⟨J2, so, sc, by rw [Hjc.out]; rfl, fun _ => ⟨rfl, by rw [HJs.out]; exact Hsrc.out.ext hAll, .inl ⟨rfl, HJs.out⟩⟩, hAll⟩
end Go.Proofs.Ytmflopeedofkhaa

namespace Go.Proofs.Ytmflopeedofkhaa
set_option linter.unusedSimpArgs false
set_option linter.unusedVariables false
set_option maxRecDepth 100000
open Go.RowKit

theorem numL_zero (s : W8) (m : Nat) : numL s 0 m = num s m := by
  unfold numL
  rw [if_neg (fun h => Nat.not_lt_zero _ h.2)]
theorem tmodSmall (n : Nat) : ∃ x : Nat, (n : Int).tmod 4294967296 = (x : Int) ∧ x < 4294967296 :=
  ⟨n % 4294967296, (Int.ofNat_tmod n 4294967296).symm, Nat.mod_lt _ (by decide)⟩
set_option maxRecDepth 100000 in
set_option maxHeartbeats 6400000 in
theorem rone_seed (j : JobD) (so : Option Addr) (sc : Nat) (s : W8) (hs : s.length ≤ 1073741824) (w : World) (hsrc : Rd w so j.src.length (u32s j.src)) :
    Calls Try.prog 50 #[.agg (jobCs j so sc), .string (bs [115, 101, 101, 100]), .string (bs s)] w (LineRet so j.src (seedJ j s) w) := by
  have HNs := Lib.hid (fun W => (show Calls Try.prog 60 #[.string (bs s), .int .u64 0, .int .u64 18446744073709551615] W fun e w' => e = numOut (numL s 0 18446744073709551615) ∧ w' = W from rnumber19_any s 0 18446744073709551615 hs (by omega) W))
  rw [numL_zero] at HNs
  have hb1 := num_lt (w := s) (most := 18446744073709551615)
  unfold seedJ numOut at *
  generalize num s 18446744073709551615 = r1 at *
  obtain ⟨n1, e1⟩ := r1
  simp only at hb1 HNs ⊢
  obtain ⟨W0, hW0⟩ : ∃ W0, (w.alloc (.cells (jobCs j so sc) 30)).alloc (.cells zeroCs 30) = W0 := ⟨_, rfl⟩
  have B0 := Lib.hid (show Below w.heap.size w W0 by rw [← hW0]; exact (ext_alloc w _).alloc (by simp) _)
  have S0 := Lib.hid (show W0.heap.size = w.heap.size + 2 by rw [← hW0]; simp)
  have R0 := Lib.hid (show W0.heap[w.heap.size]? = some (.cells (jobCs j so sc) 30 (0, 0)) by rw [← hW0]; exact heap_alloc2_old _ _ _)
  have Z0 := Lib.hid (show W0.heap[w.heap.size + 1]? = some (.cells zeroCs 30 (0, 0)) by rw [← hW0]; exact heap_alloc2_new _ _ _)
  have HIj := Lib.hid (jb_info19 j so sc)
  have H1j := Lib.hid (jb_one19 j so sc)
  have Hsrc := Lib.hid hsrc
  have HW0 := Lib.hid hW0
  unfold zeroCs at HW0
  clear hW0 hsrc
  by_cases h1 : e1 ≠ 0
  · have d1 : ((e1 : Int) != 0) = true := by simp; omega
    have d1' : (e1 != 0) = true := by simp; omega
    rw [if_pos h1]
    have H1 := Lib.hid h1
    clear h1
    obtain ⟨jc, hjc⟩ : ∃ jc, jobCs j so sc = jc := ⟨_, rfl⟩
    have Hjc := Lib.hid hjc
    rw [hjc] at R0 HIj H1j HW0
    have Hz := Lib.hid (show jc.size = zeroCs.size by rw [← hjc]; rfl)
    rw [hjc]
    clear hjc
    go_enter Try.func50, Try.ntmps50
    go_upto_region 1 with fail
    rw [HW0.out]
    go_wp2_with
    (first
          | (go_at_call 60; (with_reducible refine (HNs.out _).mono ?_); rintro e w1 ⟨rfl, rfl⟩)
          | (refine wpList_load_row rfl _ _ rfl w.heap.size rfl 30 _ (0, 0) _ R0.out Try.underlying30 rfl HIj.out ?_)
          | (refine wpList_store_row rfl _ _ _ rfl rfl rfl Z0.out Hz.out HIj.out H1j.out ?_; intro w3 hg3 ho3; have HG := Lib.hid hg3; have HO := Lib.hid ho3; clear hg3 ho3))
    refine bodyPost_ret (results_row_tmp rfl _ _ (w.heap.size + 1) 30 _ (0, 0) _ rfl HG.out Try.underlying30 rfl HIj.out) rfl ?_
    exact ⟨j, so, sc, by rw [Hjc.out]; rfl, fun h0 => absurd h0 H1.out, B0.out.trans (HO.out.below (by have := B0.out.size; omega) (fun k hk e => by omega))⟩
  have d1 : ((e1 : Int) != 0) = false := by simp; omega
  have d1' : (e1 != 0) = false := by simp; omega
  rw [if_neg h1]
  clear h1
  obtain ⟨x, hx, hxl⟩ := tmodSmall n1
  have u0 : IntKind.u64.wrap (x : Int) = (x : Int) := IntWalk.u64_in _ (by omega)
  have u1 : IntKind.u32.wrap (x : Int) = (x : Int) := IntWalk.u32_in _ (by omega)
  have HIj := Lib.hid (jb_info19 ({ j with seed := n1 }) so sc)
  have H1j := Lib.hid (jb_one19 ({ j with seed := n1 }) so sc)
  have Hz := Lib.hid (show (jobCs { j with seed := n1 } so sc).size = zeroCs.size from rfl)
  have hset : (jobCs j so sc).setIfInBounds 1 (.int .u64 (n1 : Nat)) = jobCs { j with seed := n1 } so sc := by simp [jobCs]
  have hR2 := row_set19 R0.out 1 (.int .u64 (n1 : Nat))
  rw [hset] at hR2
  have R2 := Lib.hid hR2
  have Z2 := Lib.hid (show (W0.setCell ⟨w.heap.size, 1, none⟩ (.int .u64 (n1 : Nat))).heap[w.heap.size + 1]? = some (.cells zeroCs 30 (0, 0)) from (row_other _ (by omega)).trans Z0.out)
  have k1 : W0.cell? ⟨w.heap.size, 1, none⟩ = some (.int .u64 (j.seed : Nat)) := (cell_of_row _ _ _ _ _ _ R0.out).trans rfl
  have k3 := frozen_of_row W0 w.heap.size 1 _ _ R0.out
  generalize j.seed = o1 at k1
  clear hset hR2 hb1
  have Hs2 := Lib.hid (show ({ j with seed := n1 } : JobD).src = j.src from rfl)
  generalize ({ j with seed := n1 } : JobD) = J2 at R2 Hs2 HIj H1j Hz ⊢
  go_enter Try.func50, Try.ntmps50
  go_upto_region 1 with fail
  rw [HW0.out]
  go_wp2_with
  (first
        | (go_at_call 60; (with_reducible refine (HNs.out _).mono ?_); rintro e w1 ⟨rfl, rfl⟩)
        | (refine wpList_load_row rfl _ _ rfl w.heap.size rfl 30 _ (0, 0) _ R2.out Try.underlying30 rfl HIj.out ?_)
        | (refine wpList_store_row rfl _ _ _ rfl rfl rfl Z2.out Hz.out HIj.out H1j.out ?_; intro w3 hg3 ho3; have HG := Lib.hid hg3; have HO := Lib.hid ho3; clear hg3 ho3))
  refine bodyPost_ret (results_row_tmp rfl _ _ (w.heap.size + 1) 30 _ (0, 0) _ rfl HG.out Try.underlying30 rfl HIj.out) rfl ?_
  have hBV := (Only.refl (fun k => k = w.heap.size) w1).setCell (p := ⟨w.heap.size, 1, none⟩) (fun _ => rfl) (.int .u64 (n1 : Nat))
  have hAll := (B0.out.trans (hBV.below (by have := S0.out; omega) (fun k hk e => by omega))).trans (HO.out.below (by have := S0.out; simp; omega) (fun k hk e => by omega))
  exact ⟨J2, so, sc, rfl, fun _ => ⟨rfl, by rw [Hs2.out]; exact Hsrc.out.ext hAll, .inl ⟨rfl, Hs2.out⟩⟩, hAll⟩
end Go.Proofs.Ytmflopeedofkhaa

namespace Go.Proofs.Ytmflopeedofkhaa
set_option linter.unusedSimpArgs false
set_option linter.unusedVariables false
set_option maxRecDepth 100000
open Go.RowKit

theorem jobCs_src (j : JobD) (so ao : Option Addr) (sc c : Nat) (l : List Nat) : (jobCs j so sc).setIfInBounds 4 (.slice ao l.length c) = jobCs { j with src := l } ao c := by simp [jobCs]
def srcQ (l : List Nat) (x : Nat) (w : World) (i : Value) (wr : World) : Prop := ∃ k : Nat, k ≤ l.length ∧ i = .int .i64 (k : Nat) ∧ (∀ a, (h : a < l.length) → a < k → l[a] ≠ x) ∧ wr = w
set_option maxRecDepth 100000 in
set_option maxHeartbeats 6400000 in
theorem rone_source (j : JobD) (hfew : j.src.length ≤ 256) (so : Option Addr) (sc : Nat) (s : W8) (hs : s.length ≤ 1073741824) (w : World) (hsrc : Rd w so j.src.length (u32s j.src)) :
    Calls Try.prog 50 #[.agg (jobCs j so sc), .string (bs [115, 111, 117, 114, 99, 101]), .string (bs s)] w (LineRet so j.src (sourceJ j s) w) := by
  have HNs := Lib.hid (fun W => (show Calls Try.prog 60 #[.string (bs s), .int .u64 0, .int .u64 4294967295] W fun e w' => e = numOut (numL s 0 4294967295) ∧ w' = W from rnumber19_any s 0 4294967295 hs (by omega) W))
  rw [numL_zero] at HNs
  have hb1 := num_lt (w := s) (most := 4294967295)
  unfold sourceJ numOut at *
  generalize num s 4294967295 = r1 at *
  obtain ⟨n1, e1⟩ := r1
  simp only at hb1 HNs ⊢
  obtain ⟨W0, hW0⟩ : ∃ W0, (w.alloc (.cells (jobCs j so sc) 30)).alloc (.cells zeroCs 30) = W0 := ⟨_, rfl⟩
  have B0 := Lib.hid (show Below w.heap.size w W0 by rw [← hW0]; exact (ext_alloc w _).alloc (by simp) _)
  have S0 := Lib.hid (show W0.heap.size = w.heap.size + 2 by rw [← hW0]; simp)
  have R0 := Lib.hid (show W0.heap[w.heap.size]? = some (.cells (jobCs j so sc) 30 (0, 0)) by rw [← hW0]; exact heap_alloc2_old _ _ _)
  have Z0 := Lib.hid (show W0.heap[w.heap.size + 1]? = some (.cells zeroCs 30 (0, 0)) by rw [← hW0]; exact heap_alloc2_new _ _ _)
  have HIj := Lib.hid (jb_info19 j so sc)
  have H1j := Lib.hid (jb_one19 j so sc)
  have Hsrc := Lib.hid hsrc
  have HW0 := Lib.hid hW0
  unfold zeroCs at HW0
  clear hW0 hsrc
  by_cases h1 : e1 ≠ 0
  · have d1 : ((e1 : Int) != 0) = true := by simp; omega
    have d1' : (e1 != 0) = true := by simp; omega
    rw [if_pos h1]
    have H1 := Lib.hid h1
    clear h1
    obtain ⟨jc, hjc⟩ : ∃ jc, jobCs j so sc = jc := ⟨_, rfl⟩
    have Hjc := Lib.hid hjc
    rw [hjc] at R0 HIj H1j HW0
    have Hz := Lib.hid (show jc.size = zeroCs.size by rw [← hjc]; rfl)
    rw [hjc]
    clear hjc
    go_enter Try.func50, Try.ntmps50
    go_upto_region 1 with fail
    rw [HW0.out]
    go_wp2_with
    (first
          | (go_at_call 60; (with_reducible refine (HNs.out _).mono ?_); rintro e w1 ⟨rfl, rfl⟩)
          | (refine wpList_load_row rfl _ _ rfl w.heap.size rfl 30 _ (0, 0) _ R0.out Try.underlying30 rfl HIj.out ?_)
          | (refine wpList_store_row rfl _ _ _ rfl rfl rfl Z0.out Hz.out HIj.out H1j.out ?_; intro w3 hg3 ho3; have HG := Lib.hid hg3; have HO := Lib.hid ho3; clear hg3 ho3))
    refine bodyPost_ret (results_row_tmp rfl _ _ (w.heap.size + 1) 30 _ (0, 0) _ rfl HG.out Try.underlying30 rfl HIj.out) rfl ?_
    exact ⟨j, so, sc, by rw [Hjc.out]; rfl, fun h0 => absurd h0 H1.out, B0.out.trans (HO.out.below (by have := B0.out.size; omega) (fun k hk e => by omega))⟩
  have d1 : ((e1 : Int) != 0) = false := by simp; omega
  have d1' : (e1 != 0) = false := by simp; omega
  rw [if_neg h1]
  clear h1
  have u0 : IntKind.u64.wrap (n1 : Int) = (n1 : Int) := IntWalk.u64_in _ (by omega)
  have u1 : IntKind.u32.wrap (n1 : Int) = (n1 : Int) := IntWalk.u32_in _ (by omega)
  have u2 : (n1 : Int).tmod 4294967296 = (n1 : Int) := tmod32 (by omega)
  have hk4 : W0.cell? ⟨w.heap.size, 4, none⟩ = some (.slice so j.src.length sc) := (cell_of_row _ _ _ _ _ _ R0.out).trans rfl
  have hf4 := frozen_of_row W0 w.heap.size 4 _ _ R0.out
  have Hsrc0 := Lib.hid (Hsrc.out.ext B0.out)
  obtain ⟨RR, hRR⟩ : ∃ RR, (if n1 ∈ j.src then (j, 13) else if j.src.length = 256 then (j, 4) else ({ j with src := j.src ++ [n1] }, 0)) = RR := ⟨_, rfl⟩
  have HRR := Lib.hid hRR
  rw [hRR]
  clear hRR
  obtain ⟨jc, hjc⟩ : ∃ jc, jobCs j so sc = jc := ⟨_, rfl⟩
  have Hjc := Lib.hid hjc
  rw [hjc] at R0 HIj H1j HW0
  have Hz := Lib.hid (show jc.size = zeroCs.size by rw [← hjc]; rfl)
  rw [hjc]
  have Hk5 := Lib.hid (show jc[4]? = some (.slice so j.src.length sc) by rw [← hjc]; rfl)
  clear hjc
  obtain ⟨l, hl⟩ : ∃ l, j.src = l := ⟨_, rfl⟩
  have Hl := Lib.hid hl
  rw [hl] at hk4 hfew Hsrc0 Hk5
  clear hl
  go_enter Try.func50, Try.ntmps50
  go_upto_region 1 with fail
  rw [HW0.out]
  go_wp2_with
  (first
        | (go_at_call 60; (with_reducible refine (HNs.out _).mono ?_); rintro e w1 ⟨rfl, rfl⟩)
        | (refine wpList_load_row rfl _ _ rfl w.heap.size rfl 30 _ (0, 0) _ R0.out Try.underlying30 rfl HIj.out ?_)
        | (refine wpList_store_row rfl _ _ _ rfl rfl rfl Z0.out Hz.out HIj.out H1j.out ?_; intro w3 hg3 ho3; have HG := Lib.hid hg3; have HO := Lib.hid ho3; clear hg3 ho3))
  have Hk4 := Lib.hid hk4
  have Hf4 := Lib.hid hf4
  clear hk4 hf4
  go_loopw [13, 92] (fun _ i wr => srcQ l n1 w1 i wr) (fun _ i _ => l.length - (intOf i).toNat)
  case atStart => exact ⟨0, Nat.zero_le _, rfl, fun a h h' => by omega, rfl⟩
  case round =>
    obtain ⟨k, hk, rfl, hne, rfl⟩ := hrel
    have Hne := Lib.hid hne
    clear hne
    have hk4 := Hk4.out
    by_cases hlt : k < l.length
    · have hir : (k : Int) < (l.length : Int) := by omega
      obtain ⟨b, off, rfl, hb, hc⟩ := Hsrc0.out.pos (by omega)
      have c1 := hc k hlt
      simp only [u32s, List.getElem?_map, List.getElem?_eq_getElem hlt, Option.map_some] at c1
      have Hb := Lib.hid hb
      clear hc hb
      by_cases he : l[k] = n1
      · have he' : ((l[k] : Int) == (n1 : Int)) = true := by rw [he]; simp
        have Hmem := Lib.hid (show n1 ∈ l by rw [← he]; exact List.getElem_mem hlt)
        clear he
        generalize l[k] = y at c1 he'
        go_wp2_with
        (first
              | (go_at_call 60; (with_reducible refine (HNs.out _).mono ?_); rintro e w1 ⟨rfl, rfl⟩)
              | (refine wpList_load_row rfl _ _ rfl w.heap.size rfl 30 _ (0, 0) _ R0.out Try.underlying30 rfl HIj.out ?_)
              | (refine wpList_store_row rfl _ _ _ rfl rfl rfl Z0.out Hz.out HIj.out H1j.out ?_; intro w3 hg3 ho3; have HG := Lib.hid hg3; have HO := Lib.hid ho3; clear hg3 ho3))
        refine bodyPost_ret (results_row_tmp rfl _ _ (w.heap.size + 1) 30 _ (0, 0) _ rfl HG.out Try.underlying30 rfl HIj.out) rfl ?_
        refine ⟨j, _, sc, by rw [Hjc.out, ← HRR.out, Hl.out, if_pos Hmem.out]; rfl, fun h0 => ?_, B0.out.trans (HO.out.below (by have := S0.out; omega) (fun k hk e => by omega))⟩
        rw [← HRR.out, Hl.out, if_pos Hmem.out] at h0
        cases h0
      · have he' : ((l[k] : Int) == (n1 : Int)) = false := beq_eq_false_iff_ne.2 (by omega)
        have Hne2 := Lib.hid (show ∀ a, (h : a < l.length) → a < k + 1 → l[a] ≠ n1 from fun a h h' => by
          by_cases hak : a < k
          · exact Hne.out a h hak
          · obtain rfl : a = k := by omega
            exact he)
        clear he
        generalize l[k] = y at c1 he'
        go_wp2_with fail
        go_roundw
        case rel => exact ⟨k + 1, by omega, by go_num, Hne2.out, rfl⟩
        case measure => simp [intOf]; omega
    · obtain rfl : k = l.length := by omega
      have Hnot := Lib.hid (show n1 ∉ l from fun h => by
        obtain ⟨a, ha, he⟩ := List.getElem_of_mem h
        exact Hne.out a ha ha he)
      clear hk hlt
      by_cases h256 : l.length = 256
      · have g1 : ((l.length : Int) == 256) = true := by simp; omega
        have H256 := Lib.hid h256
        clear h256
        go_wp2_with
        (first
              | (go_at_call 60; (with_reducible refine (HNs.out _).mono ?_); rintro e w1 ⟨rfl, rfl⟩)
              | (refine wpList_load_row rfl _ _ rfl w.heap.size rfl 30 _ (0, 0) _ R0.out Try.underlying30 rfl HIj.out ?_)
              | (refine wpList_store_row rfl _ _ _ rfl rfl rfl Z0.out Hz.out HIj.out H1j.out ?_; intro w3 hg3 ho3; have HG := Lib.hid hg3; have HO := Lib.hid ho3; clear hg3 ho3))
        refine bodyPost_ret (results_row_tmp rfl _ _ (w.heap.size + 1) 30 _ (0, 0) _ rfl HG.out Try.underlying30 rfl HIj.out) rfl ?_
        refine ⟨j, _, sc, by rw [Hjc.out, ← HRR.out, Hl.out, if_neg Hnot.out, if_pos H256.out]; rfl, fun h0 => ?_, B0.out.trans (HO.out.below (by have := S0.out; omega) (fun k hk e => by omega))⟩
        rw [← HRR.out, Hl.out, if_neg Hnot.out, if_pos H256.out] at h0
        cases h0
      · have g1 : ((l.length : Int) == 256) = false := beq_eq_false_iff_ne.2 (by omega)
        have H256 := Lib.hid h256
        clear h256
        have hE := u32sElem
        have hnew : ¬ (w.heap.size = wr.heap.size) := by have := S0.out; omega
        clear Hne
        obtain ⟨J2, hJ2⟩ : ∃ J2, ({ j with src := l ++ [n1] } : JobD) = J2 := ⟨_, rfl⟩
        have HJs := Lib.hid (show J2.src = l ++ [n1] by rw [← hJ2])
        have Hset := Lib.hid (show ∀ (ao : Option Addr) (c : Nat), jc.setIfInBounds 4 (.slice ao (l.length + 1) c) = jobCs J2 ao c from fun ao c => by
          have h := jobCs_src j so ao sc c (l ++ [n1])
          rw [Hjc.out, List.length_append, List.length_singleton, hJ2] at h
          exact h)
        have HIj := Lib.hid (fun (ao : Option Addr) (c : Nat) => jb_info19 J2 ao c)
        have H1j := Lib.hid (fun (ao : Option Addr) (c : Nat) => jb_one19 J2 ao c)
        have HR2 := Lib.hid (show RR = (J2, 0) by rw [← HRR.out, Hl.out, if_neg Hnot.out, if_neg H256.out, hJ2])
        clear hJ2
        have hf4 := Hf4.out
        go_upto_region 51 with fail
        go_wp2_with
        (first
        | (at_builtin; refine wpList_app rfl (.tmp 109) (.tmp 111) 26 26 rfl hE (Own.emptyAt wr 25 1 wr.heap.size rfl) rfl rfl ((Hsrc0.out.ext (ext_alloc wr _)).src Try.underlying26 sc (u32s_one _)) (by simp [maxLen]; omega) (by omega) ?_; intro ao4 cap4 g4 w4 ho4 hg4 hon4; obtain ⟨hG4, hBB4⟩ := app_blocks (w := wr) (W := wr.alloc (.cells #[] 25)) (fun k h => by cases h; exact Nat.le_refl _) (ext_alloc wr _) hg4 hon4; rw [Nat.zero_add, List.nil_append] at ho4; try rw [Nat.zero_add]; have Ho4 := Lib.hid ho4; have HG4 := Lib.hid hG4; have HB4 := Lib.hid hBB4; clear ho4 hg4 hon4 hG4 hBB4)
        | (at_builtin; refine wpList_app rfl (.tmp 113) (.tmp 115) 26 26 rfl hE (Ho4.out.ext (ext_alloc w4 _)) rfl rfl (srcOne Try.underlying26 _ _ _ _ rfl) (by simp [maxLen]; omega) (by omega) ?_; intro ao5 cap5 g5 w5 ho5 hg5 hon5; obtain ⟨hG5, hBB5⟩ := app_blocks (w := wr) (W := w4.alloc (.cells #[.int .u32 (n1 : Nat)] 25)) HG4.out (HB4.out.alloc HB4.out.size _) hg5 hon5; have hh5 := (hBB5.block w.heap.size (by have := S0.out; omega)).trans R0.out; have R6 := Lib.hid (show (w5.setCell ⟨w.heap.size, 4, none⟩ (.slice ao5 (l.length + 1) cap5)).heap[w.heap.size]? = some (.cells (jobCs J2 ao5 cap5) 30 (0, 0)) by rw [← Hset.out]; exact row_set19 hh5 4 _); have Z6 := Lib.hid (show (w5.setCell ⟨w.heap.size, 4, none⟩ (.slice ao5 (l.length + 1) cap5)).heap[w.heap.size + 1]? = some (.cells zeroCs 30 (0, 0)) from (row_other _ (by omega)).trans ((hBB5.block (w.heap.size + 1) (by have := S0.out; omega)).trans Z0.out)); have k5 := (cell_of_row _ _ 4 _ _ _ hh5).trans Hk5.out; have f5 := frozen_of_row _ _ 4 _ _ hh5; have Ho5 := Lib.hid ho5; have HB5 := Lib.hid hBB5; have HG5 := Lib.hid hG5; clear ho5 hg5 hon5 hG5 hBB5 hh5)
        | (refine wpList_load_row rfl _ _ rfl w.heap.size rfl 30 _ (0, 0) _ R6.out Try.underlying30 rfl (HIj.out _ _) ?_)
        | (refine wpList_store_row rfl _ _ _ rfl rfl rfl Z6.out rfl (HIj.out _ _) (H1j.out _ _) ?_; intro w7 hg7 ho7; have HG7 := Lib.hid hg7; have HO7 := Lib.hid ho7; clear hg7 ho7))
        refine bodyPost_ret (results_row_tmp rfl _ _ (w.heap.size + 1) 30 _ (0, 0) _ rfl HG7.out Try.underlying30 rfl (HIj.out _ _)) rfl ?_
        have hBV := (Only.refl (fun k => k = w.heap.size) w5).setCell (p := ⟨w.heap.size, 4, none⟩) (fun _ => rfl) (.slice ao5 (l.length + 1) cap5)
        have hB5 : Below w.heap.size w w5 := B0.out.trans (HB5.out.mono (by have := S0.out; omega))
        have hz5 := HB5.out.size
        have hAll := (hB5.trans (hBV.below (by have := S0.out; omega) (fun k hk e => by omega))).trans (HO7.out.below (by have := S0.out; simp; omega) (fun k hk e => by omega))
        refine ⟨J2, ao5, cap5, by rw [HR2.out]; rfl, fun _ => ⟨by rw [HR2.out], ?_, .inr fun p h => ?_⟩, hAll⟩
        · rw [HJs.out, List.length_append, List.length_singleton, show u32s (l ++ [n1]) = u32s l ++ [.int .u32 (n1 : Nat)] by simp [u32s]]
          have hOn : Only (fun k => k = w.heap.size ∨ k = w.heap.size + 1) w5 w7 := (hBV.mono (fun k _ h => .inl h)).trans HO7.out (fun k _ h => .inr h)
          exact (Ho5.out.only hOn (fun b hg hb => by have := HG5.out b hg; have := S0.out; omega)).rd
        · rcases Ho5.out.addr with ⟨h1, _, _⟩ | ⟨b, h0, h1, h2⟩
          · rw [h1] at h; cases h
          · rw [h1] at h
            cases h
            have := HG5.out b h0
            have := S0.out
            show w.heap.size ≤ b
            omega
end Go.Proofs.Ytmflopeedofkhaa

namespace Go.Proofs.Ytmflopeedofkhaa
set_option linter.unusedSimpArgs false
set_option linter.unusedVariables false
set_option maxRecDepth 100000
open Go.RowKit

theorem Rd.onlyB {w w' : World} {ao : Option Addr} {n : Nat} {xs : List Value} {fp : Nat → Prop} (h : Rd w ao n xs) (ho : Only fp w w') (hn : 0 < n → ∀ k off, ao = some ⟨k, off, none⟩ → ¬ fp k) : Rd w' ao n xs := by
  refine ⟨h.1, ?_⟩
  rcases Nat.eq_zero_or_pos n with h0 | h0
  · exact .inl h0
  · obtain ⟨b, off, h1, h2, h3⟩ := h.pos h0
    exact .inr ⟨b, off, h1, Nat.lt_of_lt_of_le h2 ho.size, fun j hj => (ho.cell h2 (hn h0 b off h1) (off + j)).trans (h3 j hj)⟩
section
variable {P : Program} {ops : Array Oper} {S : World → Prop}
theorem yieldsIf_row19 {o : Oper} {a : Act} (hw : Region.wanted o (yielded ops a.tmps) = true) (ty : TypeId) (x : Operand) (ho : o.op = .load ty x) (g : Nat) (hx : a.eval x = .pointer (some ⟨g, 0, none⟩)) (t : TypeId) (cs : Array Value) (fr : Nat × Nat) (d : TypeDesc)
    (hS : ∀ w, S w → w.heap[g]? = some (.cells cs t fr)) (hu : P.underlying ty = some d) (hd : (match d with | .struct _ | .array _ _ => true | _ => false) = true) (hi : (P.info? ty).map (·.size) = some cs.size) : YieldsIf P ops S o (.agg cs) a := by
  refine Or.inl ⟨hw, fun w hs => ?_⟩
  unfold execOp
  simp only [ho, hx, Instr.loadAt, Instr.sureAddr, Sem.run_bind, Sem.run_pure, Result.andThen_ok, run_loadVar_row w g t ty cs fr d (hS w hs) hu hd hi]
end
def lmI (met : List W8) (k : W8) (w : World) (i : Value) (wr : World) : Prop := ∃ a m : Nat, a ≤ met.length ∧ i = .int .i64 (a : Nat) ∧ (k ≠ kSource → ∀ q, q < a → met[q]? ≠ some k) ∧ wr = w.drewN m
set_option maxRecDepth 100000 in
set_option maxHeartbeats 6400000 in
theorem rline19_any (j : JobD) (hle : j.stop ≤ j.od) (hfew : j.src.length ≤ 256) (so : Option Addr) (sc : Nat) (k : W8) (ws : List W8) (hk : k.length ≤ 1073741824) (hws : ∀ x ∈ ws, x.length ≤ 1073741824) (lo : Option Addr) (lc : Nat) (met : List W8) (mo : Option Addr) (mc : Nat)
    (hsz : ws.length ≤ 1073741824) (hmz : met.length ≤ 1073741824) (w : World) (hsrc : Rd w so j.src.length (u32s j.src)) (hl : Rd w lo (ws.length + 1) (strCells (k :: ws))) (hm : Rd w mo met.length (strCells met)) :
    Calls Try.prog 26 #[.agg (jobCs j so sc), .slice lo (ws.length + 1) lc, .slice mo met.length mc] w (LineRet so j.src (lineJ j met k ws) w) := by
  have HWa := Lib.hid (fun W => rwants19_any k W)
  obtain ⟨b, off, rfl, hb, hc⟩ := hl.pos (by omega)
  obtain ⟨W0, hW0⟩ : ∃ W0, (w.alloc (.cells (jobCs j so sc) 30)).alloc (.cells zeroCs 30) = W0 := ⟨_, rfl⟩
  have B0 := Lib.hid (show Below w.heap.size w W0 by rw [← hW0]; exact (ext_alloc w _).alloc (by simp) _)
  have S0 := Lib.hid (show W0.heap.size = w.heap.size + 2 by rw [← hW0]; simp)
  have R0 := Lib.hid (show W0.heap[w.heap.size]? = some (.cells (jobCs j so sc) 30 (0, 0)) by rw [← hW0]; exact heap_alloc2_old _ _ _)
  have Z0 := Lib.hid (show W0.heap[w.heap.size + 1]? = some (.cells zeroCs 30 (0, 0)) by rw [← hW0]; exact heap_alloc2_new _ _ _)
  have HIj := Lib.hid (jb_info19 j so sc)
  have H1j := Lib.hid (jb_one19 j so sc)
  have Hsrc := Lib.hid hsrc
  have HW0 := Lib.hid hW0
  unfold zeroCs at HW0
  clear hW0 hsrc
  have Hl0 := Lib.hid (hl.ext B0.out)
  have Hm0 := Lib.hid (hm.ext B0.out)
  have c0 : W0.cell? ⟨b, off, none⟩ = some (.string (bs k)) := by
    have h := ((bcell B0.out).1 b (off + 0) hb).trans (hc 0 (by omega))
    simpa [strCells] using h
  have Hc := Lib.hid (show ∀ i x, ws[i]? = some x → W0.cell? ⟨b, off + (i + 1), none⟩ = some (.string (bs x)) from fun i x hx => by
    have hi := (List.getElem?_eq_some_iff.1 hx).1
    have h := ((bcell B0.out).1 b (off + (i + 1)) hb).trans (hc (i + 1) (by omega))
    rw [h]
    simp [strCells, hx])
  clear hc hl hm
  obtain ⟨RR, hRR⟩ : ∃ RR, lineJ j met k ws = RR := ⟨_, rfl⟩
  unfold lineJ at hRR
  rw [show lineJ j met k ws = RR by unfold lineJ; exact hRR]
  obtain ⟨jc, hjc⟩ : ∃ jc, jobCs j so sc = jc := ⟨_, rfl⟩
  have Hjc := Lib.hid hjc
  rw [hjc] at R0 HIj H1j HW0
  have Hz := Lib.hid (show jc.size = zeroCs.size by rw [← hjc]; rfl)
  rw [hjc]
  clear hjc
  have hir0 : (0 : Int) < ((ws.length + 1 : Nat) : Int) := by omega
  by_cases h0 : wantsJ k = 0
  · have HR := Lib.hid (show RR = (j, 12) by rw [← hRR, if_pos (.inl h0)])
    rw [h0] at HWa
    clear h0 hRR hle hfew hk hws
    go_enter Try.func26, Try.ntmps26
    go_upto_region 1 with fail
    rw [HW0.out]
    go_wp2_with
    (first
          | (go_at_call 48; (with_reducible refine (HWa.out _).mono ?_); rintro e w9 ⟨rfl, rfl⟩)
          | (refine wpList_load_row rfl _ _ rfl w.heap.size rfl 30 _ (0, 0) _ R0.out Try.underlying30 rfl HIj.out ?_)
          | (refine wpList_store_row rfl _ _ _ rfl rfl rfl Z0.out Hz.out HIj.out H1j.out ?_; intro w3 hg3 ho3; have HG := Lib.hid hg3; have HO := Lib.hid ho3; clear hg3 ho3))
    refine bodyPost_ret (results_row_tmp rfl _ _ (w.heap.size + 1) 30 _ (0, 0) _ rfl HG.out Try.underlying30 rfl HIj.out) rfl ?_
    refine ⟨j, so, sc, by rw [Hjc.out, HR.out]; rfl, fun h0 => ?_, B0.out.trans (HO.out.below (by have := S0.out; omega) (fun k hk e => by omega))⟩
    rw [HR.out] at h0
    cases h0
  have d0 : ((wantsJ k : Int) == 0) = false := beq_eq_false_iff_ne.2 (by omega)
  have d0' : (wantsJ k == 0) = false := beq_eq_false_iff_ne.2 h0
  generalize hwk : wantsJ k = wk at *
  by_cases h1 : wk ≠ ws.length
  · have HR := Lib.hid (show RR = (j, 12) by rw [← hRR, if_pos (.inr h1)])
    have d1 : ((wk : Int) != (ws.length : Int)) = true := by simp; omega
    have H1 := Lib.hid h1
    clear h0 h1 hRR hle hfew hk hws hwk
    generalize ws.length = n at *
    go_enter Try.func26, Try.ntmps26
    go_upto_region 1 with fail
    rw [HW0.out]
    go_wp2_with
    (first
          | (go_at_call 48; (with_reducible refine (HWa.out _).mono ?_); rintro e w9 ⟨rfl, rfl⟩)
          | (refine wpList_load_row rfl _ _ rfl w.heap.size rfl 30 _ (0, 0) _ R0.out Try.underlying30 rfl HIj.out ?_)
          | (refine wpList_store_row rfl _ _ _ rfl rfl rfl Z0.out Hz.out HIj.out H1j.out ?_; intro w3 hg3 ho3; have HG := Lib.hid hg3; have HO := Lib.hid ho3; clear hg3 ho3))
    refine bodyPost_ret (results_row_tmp rfl _ _ (w.heap.size + 1) 30 _ (0, 0) _ rfl HG.out Try.underlying30 rfl HIj.out) rfl ?_
    refine ⟨j, so, sc, by rw [Hjc.out, HR.out]; rfl, fun h0 => ?_, B0.out.trans (HO.out.below (by have := S0.out; omega) (fun k hk e => by omega))⟩
    rw [HR.out] at h0
    cases h0
  have hwl : ws.length = wk := by omega
  rw [hwl] at hir0 Hl0 hsz ⊢
  have d1 : ((wk : Int) != (wk : Int)) = false := by simp
  have hwk0 : 1 ≤ wk := by omega
  have hR1 : (if k ∈ met ∧ k ≠ kSource then (j, 13) else if k = kWalk then walkJ j ws[0]! else if k = kSeed then seedJ j ws[0]! else if k = kSource then sourceJ j ws[0]! else numsJ j k ws) = RR := by rw [← hRR]; exact (if_neg (show ¬ (wk = 0 ∨ wk ≠ ws.length) by omega)).symm
  have HR1 := Lib.hid hR1
  have HF := Lib.hid (And.intro hle hfew)
  have HK := Lib.hid (And.intro hk hws)
  have HW := Lib.hid (And.intro hwl hwk)
  clear h0 h1 hRR hR1 hle hfew hk hws hwl hwk
  go_enter Try.func26, Try.ntmps26
  go_upto_region 1 with fail
  rw [HW0.out]
  go_wp2_with
  (first
        | (go_at_call 48; (with_reducible refine (HWa.out _).mono ?_); rintro e w9 ⟨rfl, rfl⟩)
        | (refine wpList_load_row rfl _ _ rfl w.heap.size rfl 30 _ (0, 0) _ R0.out Try.underlying30 rfl HIj.out ?_)
        | (refine wpList_store_row rfl _ _ _ rfl rfl rfl Z0.out Hz.out HIj.out H1j.out ?_; intro w3 hg3 ho3; have HG := Lib.hid hg3; have HO := Lib.hid ho3; clear hg3 ho3))
  have C0 := Lib.hid c0
  go_loopw [8, 27] (fun _ i wr => lmI met k w9 i wr) (fun _ i _ => met.length - (intOf i).toNat)
  case atStart => exact ⟨0, 0, Nat.zero_le _, rfl, fun _ q h => by omega, rfl⟩
  case round =>
    obtain ⟨a, m, ha, rfl, hne, rfl⟩ := hrel
    have Hne := Lib.hid hne
    have Hha := Lib.hid ha
    clear hne
    by_cases hlt : a < met.length
    · have hir : (a : Int) < (met.length : Int) := by omega
      obtain ⟨b2, off2, rfl, hb2, hc2⟩ := Hm0.out.pos (by omega)
      have c1 := hc2 a hlt
      simp only [strCells, List.getElem?_map, List.getElem?_eq_getElem hlt, Option.map_some] at c1
      clear hb2 hc2
      by_cases he : met[a] = k
      · have he1 : (met[a] == k) = true := by rw [he]; simp
        have Hmem := Lib.hid (show k ∈ met by rw [← he]; exact List.getElem_mem hlt)
        generalize met[a] = y at c1 he1
        clear he
        by_cases hks : k = kSource
        · have hs1 : (k != ([115, 111, 117, 114, 99, 101] : W8)) = false := by rw [hks]; decide
          have hs2 : (k == ([115, 111, 117, 114, 99, 101] : W8)) = true := by rw [hks]; decide
          have Hks := Lib.hid hks
          clear hks
          have c0 := C0.out
          go_wp2_with fail
          go_quiet (fail)
          go_wp2_with fail
          go_roundw
          case rel => exact ⟨a + 1, _, by omega, by go_num, fun h => absurd Hks.out h, rfl⟩
          case measure => simp [intOf]; omega
        · have hs1 : (k != ([115, 111, 117, 114, 99, 101] : W8)) = true := by rw [bne_iff_ne]; exact hks
          have hs2 : (k == ([115, 111, 117, 114, 99, 101] : W8)) = false := beq_eq_false_iff_ne.2 hks
          have HR := Lib.hid (show RR = (j, 13) by rw [← HR1.out, if_pos ⟨Hmem.out, hks⟩])
          clear hks
          have c0 := C0.out
          go_wp2_with fail
          go_quiet (fail)
          go_wp2_with
          (first
                | (go_at_call 48; (with_reducible refine (HWa.out _).mono ?_); rintro e w9 ⟨rfl, rfl⟩)
                | (refine wpList_load_row rfl _ _ rfl w.heap.size rfl 30 _ (0, 0) _ R0.out Try.underlying30 rfl HIj.out ?_)
                | (refine wpList_store_row rfl _ _ _ rfl rfl rfl Z0.out Hz.out HIj.out H1j.out ?_; intro w3 hg3 ho3; have HG := Lib.hid hg3; have HO := Lib.hid ho3; clear hg3 ho3))
          refine bodyPost_ret (results_row_tmp rfl _ _ (w.heap.size + 1) 30 _ (0, 0) _ rfl HG.out Try.underlying30 rfl HIj.out) rfl ?_
          refine ⟨j, so, sc, by rw [Hjc.out, HR.out]; rfl, fun h0 => ?_, (below_drewN (below_drewN B0.out _) _).trans (HO.out.below B0.out.size (fun k hk e => by omega))⟩
          rw [HR.out] at h0
          cases h0
      · have he1 : (met[a] == k) = false := beq_eq_false_iff_ne.2 he
        have Hx := Lib.hid (show met[a]? ≠ some k from fun h => he (by rw [List.getElem?_eq_getElem hlt] at h; injection h))
        generalize met[a] = y at c1 he1
        clear he
        have c0 := C0.out
        go_wp2_with fail
        go_quiet (fail)
        go_wp2_with fail
        go_roundw
        case rel => exact ⟨a + 1, _, by omega, by go_num, fun h q hq => by
          by_cases hqa : q < a
          · exact Hne.out h q hqa
          · obtain rfl : q = a := by omega
            exact Hx.out, rfl⟩
        case measure => simp [intOf]; omega
    · obtain rfl : a = met.length := by omega
      have HR2 := Lib.hid (show (if k = kWalk then walkJ j ws[0]! else if k = kSeed then seedJ j ws[0]! else if k = kSource then sourceJ j ws[0]! else numsJ j k ws) = RR by
        have hno : ¬ (k ∈ met ∧ k ≠ kSource) := by
          rintro ⟨h1, h2⟩
          obtain ⟨q, hq, he⟩ := List.getElem_of_mem h1
          exact Hne.out h2 q hq (by rw [List.getElem?_eq_getElem hq, he])
        rw [← HR1.out, if_neg hno])
      clear HR1 Hne ha hlt
      obtain ⟨V, hV⟩ : ∃ V, w9.drewN m = V := ⟨_, rfl⟩
      have B1 := Lib.hid (show Below w.heap.size w V by rw [← hV]; exact below_drewN B0.out _)
      have S1 := Lib.hid (show V.heap.size = w.heap.size + 2 by rw [← hV]; exact S0.out)
      have R1 := Lib.hid (show V.heap[w.heap.size]? = some (.cells jc 30 (0, 0)) by rw [← hV]; exact R0.out)
      have Z1 := Lib.hid (show V.heap[w.heap.size + 1]? = some (.cells zeroCs 30 (0, 0)) by rw [← hV]; exact Z0.out)
      have c0 : V.cell? ⟨b, off, none⟩ = some (.string (bs k)) := by rw [← hV]; exact C0.out
      have hc1 : ∀ i x, ws[i]? = some x → V.cell? ⟨b, off + (i + 1), none⟩ = some (.string (bs x)) := by rw [← hV]; exact Hc.out
      rw [hV]
      clear hV Hha C0 Hc R0 Z0 S0 B0 Hm0 Hl0 HW0
      have hkw : k ∈ keysW := Decidable.of_not_not fun h => by
        have := wants_none h
        have := HW.out.2
        omega
      by_cases hkk : k = kWalk
      · have hone : wk = 1 := by rw [← HW.out.2, hkk]; decide
        obtain ⟨s, hs⟩ : ∃ s, ws = [s] := List.length_eq_one_iff.1 (by rw [HW.out.1, hone])
        subst hone
        have c1 := hc1 0 s (by rw [hs]; rfl)
        have k9 : (k == ([119, 97, 108, 107] : W8)) = true := by rw [hkk]; decide
        have HR3 := Lib.hid (show walkJ j s = RR by rw [← HR2.out, if_pos hkk, hs]; rfl)
        clear hkk hkw hc1
        have hir1 : (1 : Int) < ((1 + 1 : Nat) : Int) := by omega
        by_cases h1 : s = kindW[0]!
        · have s1 : (s == ([102, 105, 120, 101, 100] : W8)) = true := by rw [h1]; decide
          have hset : (jobCs j so sc).setIfInBounds 0 (.int .u8 (0 : Nat)) = jobCs { j with kind := 0 } so sc := by simp [jobCs]
          have HR := Lib.hid (show RR = ({ j with kind := 0 }, 0) by rw [← HR3.out]; unfold walkJ; rw [show kindOf s = some 0 by first | rw [h1]; decide | rw [h2]; decide | rw [h3]; decide])
          have hR2 := row_set19 R1.out 0 (.int .u8 (0 : Nat))
          have k0 : V.cell? ⟨w.heap.size, 0, none⟩ = some (.int .u8 (j.kind : Nat)) := (cell_of_row _ _ _ _ _ _ R1.out).trans (by rw [← Hjc.out]; rfl)
          have k3 := frozen_of_row V w.heap.size 0 _ _ R1.out
          have Hs2 := Lib.hid (show ({ j with kind := 0 } : JobD).src = j.src from rfl)
          rw [← Hjc.out, hset] at hR2
          generalize ({ j with kind := 0 } : JobD) = J2 at hR2 HR Hs2
          have R2 := Lib.hid hR2
          have HIj := Lib.hid (jb_info19 J2 so sc)
          have H1j := Lib.hid (jb_one19 J2 so sc)
          have Hz := Lib.hid (show (jobCs J2 so sc).size = zeroCs.size from rfl)
          have Z2 := Lib.hid (show (V.setCell ⟨w.heap.size, 0, none⟩ (.int .u8 (0 : Nat))).heap[w.heap.size + 1]? = some (.cells zeroCs 30 (0, 0)) from (row_other _ (by omega)).trans Z1.out)
          generalize j.kind = o1 at k0
          clear hset hR2
          try clear h1
          try clear h2
          try clear h3
          clear hs
          go_wp2_with
          (first
                | (go_at_call 48; (with_reducible refine (HWa.out _).mono ?_); rintro e w9 ⟨rfl, rfl⟩)
                | (refine wpList_load_row rfl _ _ rfl w.heap.size rfl 30 _ (0, 0) _ R2.out Try.underlying30 rfl HIj.out ?_)
                | (refine wpList_store_row rfl _ _ _ rfl rfl rfl Z2.out Hz.out HIj.out H1j.out ?_; intro w3 hg3 ho3; have HG := Lib.hid hg3; have HO := Lib.hid ho3; clear hg3 ho3))
          refine bodyPost_ret (results_row_tmp rfl _ _ (w.heap.size + 1) 30 _ (0, 0) _ rfl HG.out Try.underlying30 rfl HIj.out) rfl ?_
          have hBV := (Only.refl (fun k => k = w.heap.size) V).setCell (p := ⟨w.heap.size, 0, none⟩) (fun _ => rfl) (.int .u8 (0 : Nat))
          have hAll := (B1.out.trans (hBV.below B1.out.size (fun k hk e => by omega))).trans (HO.out.below (by have := S1.out; simp; omega) (fun k hk e => by omega))
          refine ⟨J2, so, sc, by rw [HR.out]; rfl, fun _ => ⟨by rw [HR.out], by rw [Hs2.out]; exact Hsrc.out.ext hAll, .inl ⟨rfl, Hs2.out⟩⟩, hAll⟩
        by_cases h2 : s = kindW[1]!
        · have s1 : (s == ([102, 105, 120, 101, 100] : W8)) = false := by rw [h2]; decide
          have s2 : (s == ([114, 101, 115, 116, 97, 114, 116] : W8)) = true := by rw [h2]; decide
          have hset : (jobCs j so sc).setIfInBounds 0 (.int .u8 (1 : Nat)) = jobCs { j with kind := 1 } so sc := by simp [jobCs]
          have HR := Lib.hid (show RR = ({ j with kind := 1 }, 0) by rw [← HR3.out]; unfold walkJ; rw [show kindOf s = some 1 by first | rw [h1]; decide | rw [h2]; decide | rw [h3]; decide])
          have hR2 := row_set19 R1.out 0 (.int .u8 (1 : Nat))
          have k0 : V.cell? ⟨w.heap.size, 0, none⟩ = some (.int .u8 (j.kind : Nat)) := (cell_of_row _ _ _ _ _ _ R1.out).trans (by rw [← Hjc.out]; rfl)
          have k3 := frozen_of_row V w.heap.size 0 _ _ R1.out
          have Hs2 := Lib.hid (show ({ j with kind := 1 } : JobD).src = j.src from rfl)
          rw [← Hjc.out, hset] at hR2
          generalize ({ j with kind := 1 } : JobD) = J2 at hR2 HR Hs2
          have R2 := Lib.hid hR2
          have HIj := Lib.hid (jb_info19 J2 so sc)
          have H1j := Lib.hid (jb_one19 J2 so sc)
          have Hz := Lib.hid (show (jobCs J2 so sc).size = zeroCs.size from rfl)
          have Z2 := Lib.hid (show (V.setCell ⟨w.heap.size, 0, none⟩ (.int .u8 (1 : Nat))).heap[w.heap.size + 1]? = some (.cells zeroCs 30 (0, 0)) from (row_other _ (by omega)).trans Z1.out)
          generalize j.kind = o1 at k0
          clear hset hR2
          try clear h1
          try clear h2
          try clear h3
          clear hs
          go_wp2_with
          (first
                | (go_at_call 48; (with_reducible refine (HWa.out _).mono ?_); rintro e w9 ⟨rfl, rfl⟩)
                | (refine wpList_load_row rfl _ _ rfl w.heap.size rfl 30 _ (0, 0) _ R2.out Try.underlying30 rfl HIj.out ?_)
                | (refine wpList_store_row rfl _ _ _ rfl rfl rfl Z2.out Hz.out HIj.out H1j.out ?_; intro w3 hg3 ho3; have HG := Lib.hid hg3; have HO := Lib.hid ho3; clear hg3 ho3))
          refine bodyPost_ret (results_row_tmp rfl _ _ (w.heap.size + 1) 30 _ (0, 0) _ rfl HG.out Try.underlying30 rfl HIj.out) rfl ?_
          have hBV := (Only.refl (fun k => k = w.heap.size) V).setCell (p := ⟨w.heap.size, 0, none⟩) (fun _ => rfl) (.int .u8 (1 : Nat))
          have hAll := (B1.out.trans (hBV.below B1.out.size (fun k hk e => by omega))).trans (HO.out.below (by have := S1.out; simp; omega) (fun k hk e => by omega))
          refine ⟨J2, so, sc, by rw [HR.out]; rfl, fun _ => ⟨by rw [HR.out], by rw [Hs2.out]; exact Hsrc.out.ext hAll, .inl ⟨rfl, Hs2.out⟩⟩, hAll⟩
        by_cases h3 : s = kindW[2]!
        · have s1 : (s == ([102, 105, 120, 101, 100] : W8)) = false := by rw [h3]; decide
          have s2 : (s == ([114, 101, 115, 116, 97, 114, 116] : W8)) = false := by rw [h3]; decide
          have s3 : (s == ([115, 101, 99, 111, 110, 100] : W8)) = true := by rw [h3]; decide
          have hset : (jobCs j so sc).setIfInBounds 0 (.int .u8 (2 : Nat)) = jobCs { j with kind := 2 } so sc := by simp [jobCs]
          have HR := Lib.hid (show RR = ({ j with kind := 2 }, 0) by rw [← HR3.out]; unfold walkJ; rw [show kindOf s = some 2 by first | rw [h1]; decide | rw [h2]; decide | rw [h3]; decide])
          have hR2 := row_set19 R1.out 0 (.int .u8 (2 : Nat))
          have k0 : V.cell? ⟨w.heap.size, 0, none⟩ = some (.int .u8 (j.kind : Nat)) := (cell_of_row _ _ _ _ _ _ R1.out).trans (by rw [← Hjc.out]; rfl)
          have k3 := frozen_of_row V w.heap.size 0 _ _ R1.out
          have Hs2 := Lib.hid (show ({ j with kind := 2 } : JobD).src = j.src from rfl)
          rw [← Hjc.out, hset] at hR2
          generalize ({ j with kind := 2 } : JobD) = J2 at hR2 HR Hs2
          have R2 := Lib.hid hR2
          have HIj := Lib.hid (jb_info19 J2 so sc)
          have H1j := Lib.hid (jb_one19 J2 so sc)
          have Hz := Lib.hid (show (jobCs J2 so sc).size = zeroCs.size from rfl)
          have Z2 := Lib.hid (show (V.setCell ⟨w.heap.size, 0, none⟩ (.int .u8 (2 : Nat))).heap[w.heap.size + 1]? = some (.cells zeroCs 30 (0, 0)) from (row_other _ (by omega)).trans Z1.out)
          generalize j.kind = o1 at k0
          clear hset hR2
          try clear h1
          try clear h2
          try clear h3
          clear hs
          go_wp2_with
          (first
                | (go_at_call 48; (with_reducible refine (HWa.out _).mono ?_); rintro e w9 ⟨rfl, rfl⟩)
                | (refine wpList_load_row rfl _ _ rfl w.heap.size rfl 30 _ (0, 0) _ R2.out Try.underlying30 rfl HIj.out ?_)
                | (refine wpList_store_row rfl _ _ _ rfl rfl rfl Z2.out Hz.out HIj.out H1j.out ?_; intro w3 hg3 ho3; have HG := Lib.hid hg3; have HO := Lib.hid ho3; clear hg3 ho3))
          refine bodyPost_ret (results_row_tmp rfl _ _ (w.heap.size + 1) 30 _ (0, 0) _ rfl HG.out Try.underlying30 rfl HIj.out) rfl ?_
          have hBV := (Only.refl (fun k => k = w.heap.size) V).setCell (p := ⟨w.heap.size, 0, none⟩) (fun _ => rfl) (.int .u8 (2 : Nat))
          have hAll := (B1.out.trans (hBV.below B1.out.size (fun k hk e => by omega))).trans (HO.out.below (by have := S1.out; simp; omega) (fun k hk e => by omega))
          refine ⟨J2, so, sc, by rw [HR.out]; rfl, fun _ => ⟨by rw [HR.out], by rw [Hs2.out]; exact Hsrc.out.ext hAll, .inl ⟨rfl, Hs2.out⟩⟩, hAll⟩
        · have s1 : (s == ([102, 105, 120, 101, 100] : W8)) = false := beq_eq_false_iff_ne.2 h1
          have s2 : (s == ([114, 101, 115, 116, 97, 114, 116] : W8)) = false := beq_eq_false_iff_ne.2 h2
          have s3 : (s == ([115, 101, 99, 111, 110, 100] : W8)) = false := beq_eq_false_iff_ne.2 h3
          have HR := Lib.hid (show RR = (j, 3) by rw [← HR3.out]; unfold walkJ kindOf; rw [if_neg h1, if_neg h2, if_neg h3])
          clear h1 h2 h3 hs
          go_wp2_with
          (first
                | (go_at_call 48; (with_reducible refine (HWa.out _).mono ?_); rintro e w9 ⟨rfl, rfl⟩)
                | (refine wpList_load_row rfl _ _ rfl w.heap.size rfl 30 _ (0, 0) _ R1.out Try.underlying30 rfl HIj.out ?_)
                | (refine wpList_store_row rfl _ _ _ rfl rfl rfl Z1.out Hz.out HIj.out H1j.out ?_; intro w3 hg3 ho3; have HG := Lib.hid hg3; have HO := Lib.hid ho3; clear hg3 ho3))
          refine bodyPost_ret (results_row_tmp rfl _ _ (w.heap.size + 1) 30 _ (0, 0) _ rfl HG.out Try.underlying30 rfl HIj.out) rfl ?_
          refine ⟨j, so, sc, by rw [Hjc.out, HR.out]; rfl, fun h0 => ?_, B1.out.trans (HO.out.below B1.out.size (fun k hk e => by omega))⟩
          rw [HR.out] at h0
          cases h0
      have k9 : (k == ([119, 97, 108, 107] : W8)) = false := beq_eq_false_iff_ne.2 hkk
      have hz := HW.out
      obtain ⟨hle, hfew⟩ := HF.out
      obtain ⟨hk, hws⟩ := HK.out
      have hcase : wk = 1 ∨ wk = 2 := by
        have := keysW_cases hkw
        rw [← hz.2]
        rcases this with e | e | e | e | e | e | e | e | e | e | e | e | e <;> rw [e] <;> decide
      rcases hcase with rfl | rfl
      · obtain ⟨s, hs⟩ : ∃ s, ws = [s] := List.length_eq_one_iff.1 hz.1
        have c1 := hc1 0 s (by rw [hs]; rfl)
        have hsl := hws s (by rw [hs]; simp)
        have HC := Lib.hid (fun (W : World) (hB : Below w.heap.size w W) => (show Calls Try.prog 50 #[.agg jc, .string (bs k), .string (bs s)] W (LineRet so j.src RR W) from by
          have hsr := Hsrc.out.ext hB
          rw [← Hjc.out, ← HR2.out, if_neg hkk, hs]
          rcases keysW_cases hkw with e | e | e | e | e | e | e | e | e | e | e | e | e
          · exact absurd e hkk
          · rw [if_pos (show k = kSeed from e), e]; exact rone_seed j so sc s hsl W hsr
          · rw [if_neg (by rw [e]; decide), if_neg (by rw [e]; decide), e]; exact rone_length j hle so sc s hsl W hsr
          · rw [if_neg (by rw [e]; decide), if_neg (by rw [e]; decide), e]; exact rone_walks j hle so sc s hsl W hsr
          · exfalso; rw [e] at hz; exact absurd hz.2 (by decide)
          · exfalso; rw [e] at hz; exact absurd hz.2 (by decide)
          · rw [if_neg (by rw [e]; decide), if_neg (by rw [e]; decide), e]; exact rone_tries j hle so sc s hsl W hsr
          · rw [if_neg (by rw [e]; decide), if_neg (by rw [e]; decide), e]; exact rone_best j hle so sc s hsl W hsr
          · rw [if_neg (by rw [e]; decide), if_neg (by rw [e]; decide), e]; exact rone_shard j hle so sc s hsl W hsr
          · rw [if_neg (by rw [e]; decide), if_neg (by rw [e]; decide), e]; exact rone_room j hle so sc s hsl W hsr
          · rw [if_neg (by rw [e]; decide), if_neg (by rw [e]; decide), e]; exact rone_pool j hle so sc s hsl W hsr
          · rw [if_neg (by rw [e]; decide), if_neg (by rw [e]; decide), e]; exact rone_sort j hle so sc s hsl W hsr
          · rw [if_neg (by rw [e]; decide), if_pos (show k = kSource from e), e]; exact rone_source j hfew so sc s hsl W hsr))
        clear hkk hkw hc1 hz hle hfew hk hws hs hsl HR2
        have hir1 : (1 : Int) < ((1 + 1 : Nat) : Int) := by omega
        go_upto_region 21 with fail
        refine wp_region_held (S := fun w' => w'.heap[w.heap.size]? = some (.cells jc 30 (0, 0)) ∧ w'.cell? ⟨b, off, none⟩ = some (.string (bs k)) ∧ w'.cell? ⟨b, off + (0 + 1), none⟩ = some (.string (bs s))) (by kernel_rfl) ?_
        have hS0 : (fun w' : World => w'.heap[w.heap.size]? = some (.cells jc 30 (0, 0)) ∧ w'.cell? ⟨b, off, none⟩ = some (.string (bs k)) ∧ w'.cell? ⟨b, off + (0 + 1), none⟩ = some (.string (bs s))) V.drew := ⟨R1.out, c0, c1⟩
        change wpAnyH _ _ _ _ _ _ _ _ (World.drew _)
        refine wpAnyH_take (i := 0) (oi := ⟨some 80, _, _, _, _, _⟩) (v := .agg jc) rfl (by kernel_rfl) (by kernel_rfl) (by kernel_rfl) (fun _ _ _ h => h) (yieldsIf_row19 rfl _ _ rfl w.heap.size rfl 30 jc (0, 0) _ (fun _ h => h.1) Try.underlying30 rfl HIj.out) hS0 ?_
        simp only [Act.put, List.setIfInBounds_toArray, List.set_cons_zero, List.set_cons_succ]
        refine wpAnyH_take (i := 1) (oi := ⟨some 81, _, _, _, _, _⟩) (v := ?_) rfl (by kernel_rfl) (by kernel_rfl) (by kernel_rfl) (fun _ _ _ h => h) (Or.inl ⟨by rfl, ?_⟩) hS0 ?_
        rotate_left
        · (intro w' hSw; obtain ⟨s0, s1, s2⟩ := hSw; go_simp; try (with_reducible rfl))
        simp only [Act.put, List.setIfInBounds_toArray, List.set_cons_zero, List.set_cons_succ]
        refine wpAnyH_take (i := 2) (oi := ⟨some 82, _, _, _, _, _⟩) (v := ?_) rfl (by kernel_rfl) (by kernel_rfl) (by kernel_rfl) (fun _ _ _ h => h) (Or.inl ⟨by rfl, ?_⟩) hS0 ?_
        rotate_left
        · (intro w' hSw; obtain ⟨s0, s1, s2⟩ := hSw; go_simp; try (with_reducible rfl))
        simp only [Act.put, List.setIfInBounds_toArray, List.set_cons_zero, List.set_cons_succ]
        refine wpAnyH_take (i := 3) (oi := ⟨some 83, _, _, _, _, _⟩) (v := ?_) rfl (by kernel_rfl) (by kernel_rfl) (by kernel_rfl) (fun _ _ _ h => h) (Or.inl ⟨by rfl, ?_⟩) hS0 ?_
        rotate_left
        · (intro w' hSw; obtain ⟨s0, s1, s2⟩ := hSw; go_simp; try (with_reducible rfl))
        simp only [Act.put, List.setIfInBounds_toArray, List.set_cons_zero, List.set_cons_succ]
        refine wpAnyH_take (i := 4) (oi := ⟨some 84, _, _, _, _, _⟩) (v := ?_) rfl (by kernel_rfl) (by kernel_rfl) (by kernel_rfl) (fun _ _ _ h => h) (Or.inl ⟨by rfl, ?_⟩) hS0 ?_
        rotate_left
        · (intro w' hSw; obtain ⟨s0, s1, s2⟩ := hSw; go_simp; try (with_reducible rfl))
        simp only [Act.put, List.setIfInBounds_toArray, List.set_cons_zero, List.set_cons_succ]
        refine wpAnyH_take (i := 5) (oi := ⟨some 85, _, _, _, _, _⟩) (v := ?_) rfl (by kernel_rfl) (by kernel_rfl) (by kernel_rfl) (fun _ _ _ h => h) (Or.inl ⟨by rfl, ?_⟩) hS0 ?_
        rotate_left
        · (intro w' hSw; obtain ⟨s0, s1, s2⟩ := hSw; go_simp; try (with_reducible rfl))
        simp only [Act.put, List.setIfInBounds_toArray, List.set_cons_zero, List.set_cons_succ]
        refine wpAnyH_take (i := 6) (oi := ⟨some 86, _, _, _, _, _⟩) (v := ?_) rfl (by kernel_rfl) (by kernel_rfl) (by kernel_rfl) (fun _ _ _ h => h) (Or.inl ⟨by rfl, ?_⟩) hS0 ?_
        rotate_left
        · (intro w' hSw; obtain ⟨s0, s1, s2⟩ := hSw; go_simp; try (with_reducible rfl))
        simp only [Act.put, List.setIfInBounds_toArray, List.set_cons_zero, List.set_cons_succ]
        refine wpAnyH_all (rs := [7]) (by kernel_rfl) (by simp) ?_
        intro i hi
        rw [List.mem_singleton] at hi
        subst hi
        refine wpOp_runG (o := ⟨some 87, _, _, _, _, _⟩) rfl rfl fun K' hK => ?_
        go_simp
        refine (HC.out _ (B1.out.trans ((ext_drew V).mono B1.out.size))).mono ?_
        rintro e w2 ⟨x, so', sc', rfl, h1, h2⟩
        have h4 := (ext_drew V).trans h2
        have hS1 : (fun w' : World => w'.heap[w.heap.size]? = some (.cells jc 30 (0, 0)) ∧ w'.cell? ⟨b, off, none⟩ = some (.string (bs k)) ∧ w'.cell? ⟨b, off + (0 + 1), none⟩ = some (.string (bs s))) w2 := ⟨(h4.block _ (by have := S1.out; omega)).trans R1.out, ((bcell h4).1 _ _ (World.block_lt_of_cell? V _ c0)).trans c0, ((bcell h4).1 _ _ (World.block_lt_of_cell? V _ c1)).trans c1⟩
        have H1 := Lib.hid h1
        have H4 := Lib.hid h4
        clear h1 h2 h4 hS0
        have hS0 := hS1
        clear hS1
        refine hK _ _ ⟨hS0, ?_⟩
        clear hK K'
        try simp only [Act.put, List.setIfInBounds_toArray, List.set_cons_zero, List.set_cons_succ]
        refine wpAnyH_take (i := 8) (oi := ⟨some 88, _, _, _, _, _⟩) (v := ?_) rfl (by kernel_rfl) (by kernel_rfl) (by kernel_rfl) (fun _ _ _ h => h) (Or.inl ⟨by rfl, ?_⟩) hS0 ?_
        rotate_left
        · (intro w' hSw; obtain ⟨s0, s1, s2⟩ := hSw; go_simp; try (with_reducible rfl))
        simp only [Act.put, List.setIfInBounds_toArray, List.set_cons_zero, List.set_cons_succ]
        refine wpAnyH_take (i := 9) (oi := ⟨some 89, _, _, _, _, _⟩) (v := ?_) rfl (by kernel_rfl) (by kernel_rfl) (by kernel_rfl) (fun _ _ _ h => h) (Or.inl ⟨by rfl, ?_⟩) hS0 ?_
        rotate_left
        · (intro w' hSw; obtain ⟨s0, s1, s2⟩ := hSw; go_simp; try (with_reducible rfl))
        simp only [Act.put, List.setIfInBounds_toArray, List.set_cons_zero, List.set_cons_succ]
        refine wpAnyH_all (rs := [10]) (by kernel_rfl) (by simp) ?_
        intro i hi
        rw [List.mem_singleton] at hi
        subst hi
        refine wpOp_runG (o := ⟨none, _, _, _, _, _⟩) rfl rfl fun K' hK => ?_
        refine wp_store_rowG _ _ _ rfl (b := w.heap.size + 1) rfl rfl ((H4.out.block _ (by have := S1.out; omega)).trans Z1.out) rfl (jb_info19 x so' sc') (jb_one19 x so' sc') ?_
        intro w3 h5 h6
        have hz2 := H4.out.size
        have hS1 : (fun w' : World => w'.heap[w.heap.size]? = some (.cells jc 30 (0, 0)) ∧ w'.cell? ⟨b, off, none⟩ = some (.string (bs k)) ∧ w'.cell? ⟨b, off + (0 + 1), none⟩ = some (.string (bs s))) w3 := ⟨(h6.same _ (by have := S1.out; omega) (by omega)).trans hS0.1, (h6.cell (b := b) (World.block_lt_of_cell? w2 _ hS0.2.1) (fun e => by have e' : b = w.heap.size + 1 := e; omega) _).trans hS0.2.1, (h6.cell (b := b) (World.block_lt_of_cell? w2 _ hS0.2.1) (fun e => by have e' : b = w.heap.size + 1 := e; omega) _).trans hS0.2.2⟩
        have H5 := Lib.hid h5
        have H6 := Lib.hid h6
        clear h5 h6 hS0 hz2
        have hS0 := hS1
        clear hS1
        refine hK _ _ ⟨hS0, ?_⟩
        clear hK K'
        try simp only [Act.put, List.setIfInBounds_toArray, List.set_cons_zero, List.set_cons_succ]
        refine wpAnyH_take (i := 11) (oi := ⟨some 7, _, _, _, _, _⟩) (v := ?_) rfl (by kernel_rfl) (by kernel_rfl) (by kernel_rfl) (fun _ _ _ h => h) (Or.inl ⟨by rfl, ?_⟩) hS0 ?_
        rotate_left
        · (intro w' hSw; obtain ⟨s0, s1, s2⟩ := hSw; go_simp; try (with_reducible rfl))
        simp only [Act.put, List.setIfInBounds_toArray, List.set_cons_zero, List.set_cons_succ]
        refine wpAnyH_done (by kernel_rfl) ?_ _
        go_wp2_with fail
        refine bodyPost_ret (results_row_tmp rfl _ _ (w.heap.size + 1) 30 _ (0, 0) _ rfl H5.out Try.underlying30 rfl (jb_info19 x so' sc')) rfl ?_
        have hz2 := H4.out.size
        have hz1 := S1.out
        refine ⟨x, so', sc', rfl, fun h0 => ?_, (B1.out.trans (H4.out.mono B1.out.size)).trans (H6.out.below (by omega) (fun k hk e => by omega))⟩
        obtain ⟨g1, g2, g3⟩ := H1.out h0
        refine ⟨g1, ?_, ?_⟩
        · refine Rd.onlyB g2 H6.out fun hn k off hk e => ?_
          rcases g3 with ⟨e1, e2⟩ | h
          · rw [e2] at hn
            obtain ⟨b', off', h7, h8, _⟩ := Hsrc.out.pos hn
            rw [← e1, hk] at h7
            cases h7
            omega
          · have h' : V.drew.heap.size ≤ k := h _ hk
            have h'' : V.heap.size ≤ k := h'
            omega
        · rcases g3 with h | h
          · exact .inl h
          · exact .inr fun p hp => by
              have h' : V.heap.size ≤ p.block := h p hp
              omega
      · obtain ⟨s, u, hs⟩ : ∃ s u, ws = [s, u] := by
          match ws, hz.1 with
          | [s, u], _ => exact ⟨s, u, rfl⟩
        have c1 := hc1 0 s (by rw [hs]; rfl)
        have c2 := hc1 1 u (by rw [hs]; rfl)
        have hsl := hws s (by rw [hs]; simp)
        have hul := hws u (by rw [hs]; simp)
        have HC := Lib.hid (fun (W : World) (hB : Below w.heap.size w W) => (show Calls Try.prog 49 #[.agg jc, .string (bs k), .string (bs s), .string (bs u)] W (LineRet so j.src RR W) from by
          have hsr := Hsrc.out.ext hB
          rw [← Hjc.out, ← HR2.out, if_neg hkk, hs]
          rcases keysW_cases hkw with e | e | e | e | e | e | e | e | e | e | e | e | e
          all_goals first
            | (exfalso; rw [e] at hz; exact absurd hz.2 (by decide))
            | (rw [if_neg (by rw [e]; decide), if_neg (by rw [e]; decide), e]; exact rtwo_bias j hle so sc s u hsl hul W hsr)
            | (rw [if_neg (by rw [e]; decide), if_neg (by rw [e]; decide), e]; exact rtwo_restart j so sc s u hsl hul W hsr)))
        clear hkk hkw hc1 hz hle hfew hk hws hs hsl hul HR2
        have hir1 : (1 : Int) < ((2 + 1 : Nat) : Int) := by omega
        have hir2 : (2 : Int) < ((2 + 1 : Nat) : Int) := by omega
        go_upto_region 20 with fail
        refine wp_region_held (S := fun w' => w'.heap[w.heap.size]? = some (.cells jc 30 (0, 0)) ∧ w'.cell? ⟨b, off, none⟩ = some (.string (bs k)) ∧ w'.cell? ⟨b, off + (0 + 1), none⟩ = some (.string (bs s)) ∧ w'.cell? ⟨b, off + (1 + 1), none⟩ = some (.string (bs u))) (by kernel_rfl) ?_
        have hS0 : (fun w' : World => w'.heap[w.heap.size]? = some (.cells jc 30 (0, 0)) ∧ w'.cell? ⟨b, off, none⟩ = some (.string (bs k)) ∧ w'.cell? ⟨b, off + (0 + 1), none⟩ = some (.string (bs s)) ∧ w'.cell? ⟨b, off + (1 + 1), none⟩ = some (.string (bs u))) V.drew := ⟨R1.out, c0, c1, c2⟩
        change wpAnyH _ _ _ _ _ _ _ _ (World.drew _)
        refine wpAnyH_take (i := 0) (oi := ⟨some 67, _, _, _, _, _⟩) (v := .agg jc) rfl (by kernel_rfl) (by kernel_rfl) (by kernel_rfl) (fun _ _ _ h => h) (yieldsIf_row19 rfl _ _ rfl w.heap.size rfl 30 jc (0, 0) _ (fun _ h => h.1) Try.underlying30 rfl HIj.out) hS0 ?_
        simp only [Act.put, List.setIfInBounds_toArray, List.set_cons_zero, List.set_cons_succ]
        refine wpAnyH_take (i := 1) (oi := ⟨some 68, _, _, _, _, _⟩) (v := ?_) rfl (by kernel_rfl) (by kernel_rfl) (by kernel_rfl) (fun _ _ _ h => h) (Or.inl ⟨by rfl, ?_⟩) hS0 ?_
        rotate_left
        · (intro w' hSw; obtain ⟨s0, s1, s2, s3⟩ := hSw; go_simp; try (with_reducible rfl))
        simp only [Act.put, List.setIfInBounds_toArray, List.set_cons_zero, List.set_cons_succ]
        refine wpAnyH_take (i := 2) (oi := ⟨some 69, _, _, _, _, _⟩) (v := ?_) rfl (by kernel_rfl) (by kernel_rfl) (by kernel_rfl) (fun _ _ _ h => h) (Or.inl ⟨by rfl, ?_⟩) hS0 ?_
        rotate_left
        · (intro w' hSw; obtain ⟨s0, s1, s2, s3⟩ := hSw; go_simp; try (with_reducible rfl))
        simp only [Act.put, List.setIfInBounds_toArray, List.set_cons_zero, List.set_cons_succ]
        refine wpAnyH_take (i := 3) (oi := ⟨some 70, _, _, _, _, _⟩) (v := ?_) rfl (by kernel_rfl) (by kernel_rfl) (by kernel_rfl) (fun _ _ _ h => h) (Or.inl ⟨by rfl, ?_⟩) hS0 ?_
        rotate_left
        · (intro w' hSw; obtain ⟨s0, s1, s2, s3⟩ := hSw; go_simp; try (with_reducible rfl))
        simp only [Act.put, List.setIfInBounds_toArray, List.set_cons_zero, List.set_cons_succ]
        refine wpAnyH_take (i := 4) (oi := ⟨some 71, _, _, _, _, _⟩) (v := ?_) rfl (by kernel_rfl) (by kernel_rfl) (by kernel_rfl) (fun _ _ _ h => h) (Or.inl ⟨by rfl, ?_⟩) hS0 ?_
        rotate_left
        · (intro w' hSw; obtain ⟨s0, s1, s2, s3⟩ := hSw; go_simp; try (with_reducible rfl))
        simp only [Act.put, List.setIfInBounds_toArray, List.set_cons_zero, List.set_cons_succ]
        refine wpAnyH_take (i := 5) (oi := ⟨some 72, _, _, _, _, _⟩) (v := ?_) rfl (by kernel_rfl) (by kernel_rfl) (by kernel_rfl) (fun _ _ _ h => h) (Or.inl ⟨by rfl, ?_⟩) hS0 ?_
        rotate_left
        · (intro w' hSw; obtain ⟨s0, s1, s2, s3⟩ := hSw; go_simp; try (with_reducible rfl))
        simp only [Act.put, List.setIfInBounds_toArray, List.set_cons_zero, List.set_cons_succ]
        refine wpAnyH_take (i := 6) (oi := ⟨some 73, _, _, _, _, _⟩) (v := ?_) rfl (by kernel_rfl) (by kernel_rfl) (by kernel_rfl) (fun _ _ _ h => h) (Or.inl ⟨by rfl, ?_⟩) hS0 ?_
        rotate_left
        · (intro w' hSw; obtain ⟨s0, s1, s2, s3⟩ := hSw; go_simp; try (with_reducible rfl))
        simp only [Act.put, List.setIfInBounds_toArray, List.set_cons_zero, List.set_cons_succ]
        refine wpAnyH_take (i := 7) (oi := ⟨some 74, _, _, _, _, _⟩) (v := ?_) rfl (by kernel_rfl) (by kernel_rfl) (by kernel_rfl) (fun _ _ _ h => h) (Or.inl ⟨by rfl, ?_⟩) hS0 ?_
        rotate_left
        · (intro w' hSw; obtain ⟨s0, s1, s2, s3⟩ := hSw; go_simp; try (with_reducible rfl))
        simp only [Act.put, List.setIfInBounds_toArray, List.set_cons_zero, List.set_cons_succ]
        refine wpAnyH_take (i := 8) (oi := ⟨some 75, _, _, _, _, _⟩) (v := ?_) rfl (by kernel_rfl) (by kernel_rfl) (by kernel_rfl) (fun _ _ _ h => h) (Or.inl ⟨by rfl, ?_⟩) hS0 ?_
        rotate_left
        · (intro w' hSw; obtain ⟨s0, s1, s2, s3⟩ := hSw; go_simp; try (with_reducible rfl))
        simp only [Act.put, List.setIfInBounds_toArray, List.set_cons_zero, List.set_cons_succ]
        refine wpAnyH_take (i := 9) (oi := ⟨some 76, _, _, _, _, _⟩) (v := ?_) rfl (by kernel_rfl) (by kernel_rfl) (by kernel_rfl) (fun _ _ _ h => h) (Or.inl ⟨by rfl, ?_⟩) hS0 ?_
        rotate_left
        · (intro w' hSw; obtain ⟨s0, s1, s2, s3⟩ := hSw; go_simp; try (with_reducible rfl))
        simp only [Act.put, List.setIfInBounds_toArray, List.set_cons_zero, List.set_cons_succ]
        refine wpAnyH_all (rs := [10]) (by kernel_rfl) (by simp) ?_
        intro i hi
        rw [List.mem_singleton] at hi
        subst hi
        refine wpOp_runG (o := ⟨some 77, _, _, _, _, _⟩) rfl rfl fun K' hK => ?_
        go_simp
        refine (HC.out _ (B1.out.trans ((ext_drew V).mono B1.out.size))).mono ?_
        rintro e w2 ⟨x, so', sc', rfl, h1, h2⟩
        have h4 := (ext_drew V).trans h2
        have hS1 : (fun w' : World => w'.heap[w.heap.size]? = some (.cells jc 30 (0, 0)) ∧ w'.cell? ⟨b, off, none⟩ = some (.string (bs k)) ∧ w'.cell? ⟨b, off + (0 + 1), none⟩ = some (.string (bs s)) ∧ w'.cell? ⟨b, off + (1 + 1), none⟩ = some (.string (bs u))) w2 := ⟨(h4.block _ (by have := S1.out; omega)).trans R1.out, ((bcell h4).1 _ _ (World.block_lt_of_cell? V _ c0)).trans c0, ((bcell h4).1 _ _ (World.block_lt_of_cell? V _ c1)).trans c1, ((bcell h4).1 _ _ (World.block_lt_of_cell? V _ c2)).trans c2⟩
        have H1 := Lib.hid h1
        have H4 := Lib.hid h4
        clear h1 h2 h4 hS0
        have hS0 := hS1
        clear hS1
        refine hK _ _ ⟨hS0, ?_⟩
        clear hK K'
        try simp only [Act.put, List.setIfInBounds_toArray, List.set_cons_zero, List.set_cons_succ]
        refine wpAnyH_take (i := 11) (oi := ⟨some 78, _, _, _, _, _⟩) (v := ?_) rfl (by kernel_rfl) (by kernel_rfl) (by kernel_rfl) (fun _ _ _ h => h) (Or.inl ⟨by rfl, ?_⟩) hS0 ?_
        rotate_left
        · (intro w' hSw; obtain ⟨s0, s1, s2, s3⟩ := hSw; go_simp; try (with_reducible rfl))
        simp only [Act.put, List.setIfInBounds_toArray, List.set_cons_zero, List.set_cons_succ]
        refine wpAnyH_take (i := 12) (oi := ⟨some 79, _, _, _, _, _⟩) (v := ?_) rfl (by kernel_rfl) (by kernel_rfl) (by kernel_rfl) (fun _ _ _ h => h) (Or.inl ⟨by rfl, ?_⟩) hS0 ?_
        rotate_left
        · (intro w' hSw; obtain ⟨s0, s1, s2, s3⟩ := hSw; go_simp; try (with_reducible rfl))
        simp only [Act.put, List.setIfInBounds_toArray, List.set_cons_zero, List.set_cons_succ]
        refine wpAnyH_all (rs := [13]) (by kernel_rfl) (by simp) ?_
        intro i hi
        rw [List.mem_singleton] at hi
        subst hi
        refine wpOp_runG (o := ⟨none, _, _, _, _, _⟩) rfl rfl fun K' hK => ?_
        refine wp_store_rowG _ _ _ rfl (b := w.heap.size + 1) rfl rfl ((H4.out.block _ (by have := S1.out; omega)).trans Z1.out) rfl (jb_info19 x so' sc') (jb_one19 x so' sc') ?_
        intro w3 h5 h6
        have hz2 := H4.out.size
        have hS1 : (fun w' : World => w'.heap[w.heap.size]? = some (.cells jc 30 (0, 0)) ∧ w'.cell? ⟨b, off, none⟩ = some (.string (bs k)) ∧ w'.cell? ⟨b, off + (0 + 1), none⟩ = some (.string (bs s)) ∧ w'.cell? ⟨b, off + (1 + 1), none⟩ = some (.string (bs u))) w3 := ⟨(h6.same _ (by have := S1.out; omega) (by omega)).trans hS0.1, (h6.cell (b := b) (World.block_lt_of_cell? w2 _ hS0.2.1) (fun e => by have e' : b = w.heap.size + 1 := e; omega) _).trans hS0.2.1, (h6.cell (b := b) (World.block_lt_of_cell? w2 _ hS0.2.1) (fun e => by have e' : b = w.heap.size + 1 := e; omega) _).trans hS0.2.2.1, (h6.cell (b := b) (World.block_lt_of_cell? w2 _ hS0.2.1) (fun e => by have e' : b = w.heap.size + 1 := e; omega) _).trans hS0.2.2.2⟩
        have H5 := Lib.hid h5
        have H6 := Lib.hid h6
        clear h5 h6 hS0 hz2
        have hS0 := hS1
        clear hS1
        refine hK _ _ ⟨hS0, ?_⟩
        clear hK K'
        try simp only [Act.put, List.setIfInBounds_toArray, List.set_cons_zero, List.set_cons_succ]
        refine wpAnyH_take (i := 14) (oi := ⟨some 7, _, _, _, _, _⟩) (v := ?_) rfl (by kernel_rfl) (by kernel_rfl) (by kernel_rfl) (fun _ _ _ h => h) (Or.inl ⟨by rfl, ?_⟩) hS0 ?_
        rotate_left
        · (intro w' hSw; obtain ⟨s0, s1, s2, s3⟩ := hSw; go_simp; try (with_reducible rfl))
        simp only [Act.put, List.setIfInBounds_toArray, List.set_cons_zero, List.set_cons_succ]
        refine wpAnyH_done (by kernel_rfl) ?_ _
        go_wp2_with fail
        refine bodyPost_ret (results_row_tmp rfl _ _ (w.heap.size + 1) 30 _ (0, 0) _ rfl H5.out Try.underlying30 rfl (jb_info19 x so' sc')) rfl ?_
        have hz2 := H4.out.size
        have hz1 := S1.out
        refine ⟨x, so', sc', rfl, fun h0 => ?_, (B1.out.trans (H4.out.mono B1.out.size)).trans (H6.out.below (by omega) (fun k hk e => by omega))⟩
        obtain ⟨g1, g2, g3⟩ := H1.out h0
        refine ⟨g1, ?_, ?_⟩
        · refine Rd.onlyB g2 H6.out fun hn k off hk e => ?_
          rcases g3 with ⟨e1, e2⟩ | h
          · rw [e2] at hn
            obtain ⟨b', off', h7, h8, _⟩ := Hsrc.out.pos hn
            rw [← e1, hk] at h7
            cases h7
            omega
          · have h' : V.drew.heap.size ≤ k := h _ hk
            have h'' : V.heap.size ≤ k := h'
            omega
        · rcases g3 with h | h
          · exact .inl h
          · exact .inr fun p hp => by
              have h' : V.heap.size ≤ p.block := h p hp
              omega
end Go.Proofs.Ytmflopeedofkhaa
