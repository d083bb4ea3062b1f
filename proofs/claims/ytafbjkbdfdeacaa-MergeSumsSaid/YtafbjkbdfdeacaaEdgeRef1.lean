/- palmerref12.One. -/
import Derived.Test.YtafbjkbdfdeacaaEdgeOneW
import Derived.Test.YtafbjkbdfdeacaaTextRefW
namespace Go.Proofs.Ytafbjkbdfdeacaa
set_option linter.unusedSimpArgs false
set_option linter.unusedVariables false
open Go.RowKit

theorem k429 : ((4294967295 : Nat) : Int) = 4294967295 := rfl
theorem k214 : ((2147483647 : Nat) : Int) = 2147483647 := rfl
set_option maxRecDepth 100000 in
set_option maxHeartbeats 1600000 in
theorem rone_any (l : List UInt8) (hl : l.length ≤ 1073741824) (w : World) : Calls Try.prog 31 #[.string (bs l)] w (OneRet (oneE l) w) := by
  have hW := fun (W : World) => rwords_any l hl W
  have hwm := words_mem2 l
  have hwl := words_len l
  have hne := words_ne l
  unfold oneE
  generalize words l = ws at hW hwm hwl hne
  have HW := Lib.hid hW
  have Hwm := Lib.hid hwm
  have Hne := Lib.hid hne
  clear hW hwm hne
  match ws, HW, Hwm, hwl, Hne with
  | [], HW, Hwm, hwl, Hne =>
    simp only [List.length_nil] at HW
    go_enter Try.func31, Try.ntmps31
    go_wp2_with fail
    have hEB : EB w.heap.size w ((w.alloc (Obj.cells #[Value.int IntKind.u32 0, Value.int IntKind.u32 0, Value.int IntKind.u32 0] 24)).alloc (Obj.cells #[Value.int IntKind.u32 0, Value.int IntKind.u32 0, Value.int IntKind.u32 0] 24)) := by
      constructor <;> first | exact (ext_alloc w _).alloc (by simp) _ | (simp [go_sem, ↓IntWalk.iteOmega]) | (simp; omega)
    have hEN : EB (w.heap.size + 1) (w.alloc (Obj.cells #[Value.int IntKind.u32 0, Value.int IntKind.u32 0, Value.int IntKind.u32 0] 24)) ((w.alloc (Obj.cells #[Value.int IntKind.u32 0, Value.int IntKind.u32 0, Value.int IntKind.u32 0] 24)).alloc (Obj.cells #[Value.int IntKind.u32 0, Value.int IntKind.u32 0, Value.int IntKind.u32 0] 24)) := by
      constructor <;> first | exact (ext_alloc _ _).mono (by simp) | (simp [go_sem, ↓IntWalk.iteOmega])
    generalize ((w.alloc (Obj.cells #[Value.int IntKind.u32 0, Value.int IntKind.u32 0, Value.int IntKind.u32 0] 24)).alloc (Obj.cells #[Value.int IntKind.u32 0, Value.int IntKind.u32 0, Value.int IntKind.u32 0] 24)) = wA at hEB hEN ⊢
    have HEB := Lib.hid hEB
    have HEN := Lib.hid hEN
    clear hEB hEN
    go_wp2_with (first
      | (go_at_call 53; refine (HW.out _).mono ?_; rintro e w1 ⟨a1, c1, g1, rfl, ho1, hg1, hB1⟩; have HE1 := Lib.hid (HEB.out.ext hB1); have HM1 := Lib.hid (HEN.out.ext hB1); obtain ⟨_, hs2, z0, z1, z2, q0, q1, q2⟩ := HE1.out; obtain ⟨_, hs3, m0, m1, m2, _, _, _⟩ := HM1.out; clear hB1 ho1 hg1))
    refine bodyPost_ret (v := .tuple #[edgeV (0, 0, 0), .bool false, .int .i64 0]) (by simp [results, Try.results31, go_sem, cell_set_ite, ↓IntWalk.iteOmega, edgeV, z0, z1, z2]) rfl ?_
    exact ⟨rfl, ((HE1.out.below.setCell (by simp) _).setCell (by simp) _).setCell (by simp) _⟩
  | [] :: r, HW, Hwm, hwl, Hne => exact absurd rfl (Hne.out [] (by simp))
  | (c :: a) :: r, HW, Hwm, hwl, Hne =>
    have hnum := fun (x : List UInt8) (m : Nat) (hm : m < 18446744073709551616) (h : x ∈ (c :: a) :: r) (W : World) => rnum_any x m (by have := Hwm.out x h; omega) hm W
    have hmany := oneW_many (c :: a) r
    have hn1 : ((c :: a) :: r).length = r.length + 1 := rfl
    have hmark : (c :: a).head? = some 35 → oneW ((c :: a) :: r) = ((0, 0, 0), false, 0) := fun h => if_pos h
    have htwo : ∀ b, r = [b] → (c :: a).head? ≠ some 35 → oneW ((c :: a) :: r) = twoE (c :: a) b (1, 0) := fun b h hm => by subst h; exact if_neg hm
    have hthree : ∀ b d, r = [b, d] → (c :: a).head? ≠ some 35 → oneW ((c :: a) :: r) = twoE (c :: a) b (weightOf d) := fun b d h hm => by subst h; exact if_neg hm
    obtain ⟨n, hn⟩ : ∃ n, ((c :: a) :: r).length = n := ⟨_, rfl⟩
    rw [hn] at HW hwl hn1
    have h0 : ((n : Int) == 0) = false := beq_eq_false_iff_ne.2 (by omega)
    have h1 : (0 : Int) < n := by omega
    have h1' : 0 < n := by omega
    have hsz : (0 : Int) < ((bs (c :: a)).size : Int) := by rw [bs_size]; simp only [List.length_cons]; omega
    have hsz' : 0 < (bs (c :: a)).size := by rw [bs_size]; simp
    have hget : (bs (c :: a))[0]'hsz' = c := by rw [bs_get]; rfl
    have hN0 := hnum (c :: a) 4294967295 (by decide) (by simp)
    have hsc : (strCells ((c :: a) :: r))[0]? = some (.string (bs (c :: a))) := rfl
    have hsc1 : (strCells ((c :: a) :: r))[1]? = (r[0]?).map fun x => .string (bs x) := by simp [strCells]
    have hsc2 : (strCells ((c :: a) :: r))[2]? = (r[1]?).map fun x => .string (bs x) := by simp [strCells]
    generalize strCells ((c :: a) :: r) = sc at HW hsc hsc1 hsc2
    generalize hS : bs (c :: a) = S at hsc hsz hsz' hget hN0
    have hpb0 : ((S[0].toNat : Int) == 35) = (c == 35) := by
      rw [hget]
      by_cases hm : c = 35
      · subst hm; rfl
      · rw [beq_eq_false_iff_ne.2 hm, beq_eq_false_iff_ne]
        intro e
        exact hm (by rw [← UInt8.toNat_inj]; show c.toNat = 35; omega)
    by_cases hm : c = 35
    · have hmk := hmark (by rw [hm]; rfl)
      rw [hmk]
      have hpb : ((S[0].toNat : Int) == 35) = true := by rw [hpb0, hm]; rfl
      clear hmark hmany hmk hm hn hn1 htwo hthree hsc1 hsc2 hN0 hnum hpb0 hget hS
      go_enter Try.func31, Try.ntmps31
      go_wp2_with fail
      have hEB : EB w.heap.size w ((w.alloc (Obj.cells #[Value.int IntKind.u32 0, Value.int IntKind.u32 0, Value.int IntKind.u32 0] 24)).alloc (Obj.cells #[Value.int IntKind.u32 0, Value.int IntKind.u32 0, Value.int IntKind.u32 0] 24)) := by
        constructor <;> first | exact (ext_alloc w _).alloc (by simp) _ | (simp [go_sem, ↓IntWalk.iteOmega]) | (simp; omega)
      have hEN : EB (w.heap.size + 1) (w.alloc (Obj.cells #[Value.int IntKind.u32 0, Value.int IntKind.u32 0, Value.int IntKind.u32 0] 24)) ((w.alloc (Obj.cells #[Value.int IntKind.u32 0, Value.int IntKind.u32 0, Value.int IntKind.u32 0] 24)).alloc (Obj.cells #[Value.int IntKind.u32 0, Value.int IntKind.u32 0, Value.int IntKind.u32 0] 24)) := by
        constructor <;> first | exact (ext_alloc _ _).mono (by simp) | (simp [go_sem, ↓IntWalk.iteOmega])
      generalize ((w.alloc (Obj.cells #[Value.int IntKind.u32 0, Value.int IntKind.u32 0, Value.int IntKind.u32 0] 24)).alloc (Obj.cells #[Value.int IntKind.u32 0, Value.int IntKind.u32 0, Value.int IntKind.u32 0] 24)) = wA at hEB hEN ⊢
      have HEB := Lib.hid hEB
      have HEN := Lib.hid hEN
      clear hEB hEN
      go_wp2_with (first
        | (go_at_call 53; refine (HW.out _).mono ?_; rintro e w1 ⟨a1, c1, g1, rfl, ho1, hg1, hB1⟩; have HE1 := Lib.hid (HEB.out.ext hB1); have HM1 := Lib.hid (HEN.out.ext hB1); obtain ⟨_, hs2, z0, z1, z2, q0, q1, q2⟩ := HE1.out; obtain ⟨_, hs3, m0, m1, m2, _, _, _⟩ := HM1.out; obtain ⟨bw, _, rfl, hbw⟩ := ho1.pos h1'; have hc0 := (ho1.cell 0 (by omega)).trans hsc; have Ho1 := Lib.hid ho1; clear hB1 ho1 hg1))
      refine bodyPost_ret (v := .tuple #[edgeV (0, 0, 0), .bool false, .int .i64 0]) (by simp [results, Try.results31, go_sem, cell_set_ite, ↓IntWalk.iteOmega, edgeV, z0, z1, z2]) rfl ?_
      exact ⟨rfl, ((HE1.out.below.setCell (by simp) _).setCell (by simp) _).setCell (by simp) _⟩
    · have hmne : (c :: a).head? ≠ some 35 := by simpa using hm
      have hpb : ((S[0].toNat : Int) == 35) = false := by rw [hpb0]; simpa using hm
      by_cases hl3 : r.length = 1 ∨ r.length = 2
      · have ht1 : ((n : Int) == 1) = false := by simp; omega
        have ht2 : decide ((3 : Int) < n) = false := decide_eq_false (by omega)
        have hir1 : (1 : Int) < n := by omega
        have hr2 : r.length = 1 → ∃ b, r = [b] := fun h => List.length_eq_one_iff.1 h
        by_cases hl1 : r.length = 1
        · obtain ⟨b, hb⟩ := hr2 hl1
          rw [htwo b hb hmne]
          have hN1 := hnum b 4294967295 (by decide) (by rw [hb]; simp)
          have hc1 : sc[1]? = some (.string (bs b)) := by rw [hsc1, hb]; rfl
          have ht3 : ((n : Int) == 3) = false := by simp; omega
          unfold twoE
          have q0 := (num_bound (c :: a) 4294967295).1
          have q1 := (num_bound b 4294967295).1
          simp only [numOut, k429] at hN0 hN1
          clear hmark hmany hm htwo hthree hsc1 hsc2 hnum hpb0 hget hS hmne hr2 hl1 hb hl3 hn hn1
          generalize bs b = S1 at hc1 hN1
          generalize num (c :: a) 4294967295 = r0 at hN0 q0 ⊢
          generalize num b 4294967295 = r1 at hN1 q1 ⊢
          obtain ⟨v0, e0⟩ := r0
          obtain ⟨v1, e1⟩ := r1
          simp only at hN0 hN1 q0 q1 ⊢
          have HN0 := Lib.hid hN0
          have HN1 := Lib.hid hN1
          clear hN0 hN1
          have wx0 : (v0 : Int) % 4294967296 = v0 := by omega
          have wx1 : (v1 : Int) % 4294967296 = v1 := by omega
          by_cases he0 : e0 = 0
          · have hd0 : ((e0 : Int) != 0) = false := by simp [he0]
            rw [if_neg (by omega)]
            by_cases he1 : e1 = 0
            · have hd1 : ((e1 : Int) != 0) = false := by simp [he1]
              rw [if_neg (by omega), if_neg (by simp)]
              clear he0 he1
              go_enter Try.func31, Try.ntmps31
              go_wp2_with fail
              have hEB : EB w.heap.size w ((w.alloc (Obj.cells #[Value.int IntKind.u32 0, Value.int IntKind.u32 0, Value.int IntKind.u32 0] 24)).alloc (Obj.cells #[Value.int IntKind.u32 0, Value.int IntKind.u32 0, Value.int IntKind.u32 0] 24)) := by
                constructor <;> first | exact (ext_alloc w _).alloc (by simp) _ | (simp [go_sem, ↓IntWalk.iteOmega]) | (simp; omega)
              have hEN : EB (w.heap.size + 1) (w.alloc (Obj.cells #[Value.int IntKind.u32 0, Value.int IntKind.u32 0, Value.int IntKind.u32 0] 24)) ((w.alloc (Obj.cells #[Value.int IntKind.u32 0, Value.int IntKind.u32 0, Value.int IntKind.u32 0] 24)).alloc (Obj.cells #[Value.int IntKind.u32 0, Value.int IntKind.u32 0, Value.int IntKind.u32 0] 24)) := by
                constructor <;> first | exact (ext_alloc _ _).mono (by simp) | (simp [go_sem, ↓IntWalk.iteOmega])
              generalize ((w.alloc (Obj.cells #[Value.int IntKind.u32 0, Value.int IntKind.u32 0, Value.int IntKind.u32 0] 24)).alloc (Obj.cells #[Value.int IntKind.u32 0, Value.int IntKind.u32 0, Value.int IntKind.u32 0] 24)) = wA at hEB hEN ⊢
              have HEB := Lib.hid hEB
              have HEN := Lib.hid hEN
              clear hEB hEN
              go_wp2_with (first
                | (go_at_call 53; refine (HW.out _).mono ?_; rintro e w1 ⟨a1, c1, g1, rfl, ho1, hg1, hB1⟩; have HE1 := Lib.hid (HEB.out.ext hB1); have HM1 := Lib.hid (HEN.out.ext hB1); obtain ⟨_, hs2, z0, z1, z2, q0, q1, q2⟩ := HE1.out; obtain ⟨_, hs3, m0, m1, m2, _, _, _⟩ := HM1.out; obtain ⟨bw, _, rfl, hbw⟩ := ho1.pos h1'; have hc0 := (ho1.cell 0 (by omega)).trans hsc; have hc1 := (ho1.cell 1 (by omega)).trans hc1; have Ho1 := Lib.hid ho1; clear hB1 ho1 hg1)
                | (go_at_call 54; (with_reducible refine (HN0.out _).mono ?_); rintro e w2 ⟨rfl, rfl⟩)
                | (go_at_call 54; (with_reducible refine (HN1.out _).mono ?_); rintro e w2 ⟨rfl, rfl⟩))
              refine bodyPost_ret (v := .tuple #[edgeV (v0, v1, 1), .bool true, .int .i64 0]) (by simp [results, Try.results31, go_sem, cell_set_ite, ↓IntWalk.iteOmega, edgeV, z0, z1, z2]) rfl ?_
              exact ⟨rfl, ((HE1.out.below.setCell (by simp) _).setCell (by simp) _).setCell (by simp) _⟩
            · have hd1 : ((e1 : Int) != 0) = true := by simp; omega
              rw [if_pos he1]
              clear he0 he1
              go_enter Try.func31, Try.ntmps31
              go_wp2_with fail
              have hEB : EB w.heap.size w ((w.alloc (Obj.cells #[Value.int IntKind.u32 0, Value.int IntKind.u32 0, Value.int IntKind.u32 0] 24)).alloc (Obj.cells #[Value.int IntKind.u32 0, Value.int IntKind.u32 0, Value.int IntKind.u32 0] 24)) := by
                constructor <;> first | exact (ext_alloc w _).alloc (by simp) _ | (simp [go_sem, ↓IntWalk.iteOmega]) | (simp; omega)
              have hEN : EB (w.heap.size + 1) (w.alloc (Obj.cells #[Value.int IntKind.u32 0, Value.int IntKind.u32 0, Value.int IntKind.u32 0] 24)) ((w.alloc (Obj.cells #[Value.int IntKind.u32 0, Value.int IntKind.u32 0, Value.int IntKind.u32 0] 24)).alloc (Obj.cells #[Value.int IntKind.u32 0, Value.int IntKind.u32 0, Value.int IntKind.u32 0] 24)) := by
                constructor <;> first | exact (ext_alloc _ _).mono (by simp) | (simp [go_sem, ↓IntWalk.iteOmega])
              generalize ((w.alloc (Obj.cells #[Value.int IntKind.u32 0, Value.int IntKind.u32 0, Value.int IntKind.u32 0] 24)).alloc (Obj.cells #[Value.int IntKind.u32 0, Value.int IntKind.u32 0, Value.int IntKind.u32 0] 24)) = wA at hEB hEN ⊢
              have HEB := Lib.hid hEB
              have HEN := Lib.hid hEN
              clear hEB hEN
              go_wp2_with (first
                | (go_at_call 53; refine (HW.out _).mono ?_; rintro e w1 ⟨a1, c1, g1, rfl, ho1, hg1, hB1⟩; have HE1 := Lib.hid (HEB.out.ext hB1); have HM1 := Lib.hid (HEN.out.ext hB1); obtain ⟨_, hs2, z0, z1, z2, q0, q1, q2⟩ := HE1.out; obtain ⟨_, hs3, m0, m1, m2, _, _, _⟩ := HM1.out; obtain ⟨bw, _, rfl, hbw⟩ := ho1.pos h1'; have hc0 := (ho1.cell 0 (by omega)).trans hsc; have hc1 := (ho1.cell 1 (by omega)).trans hc1; have Ho1 := Lib.hid ho1; clear hB1 ho1 hg1)
                | (go_at_call 54; (with_reducible refine (HN0.out _).mono ?_); rintro e w2 ⟨rfl, rfl⟩)
                | (go_at_call 54; (with_reducible refine (HN1.out _).mono ?_); rintro e w2 ⟨rfl, rfl⟩))
              refine bodyPost_ret (v := .tuple #[edgeV (0, 0, 0), .bool false, .int .i64 (e1 : Nat)]) (by simp [results, Try.results31, go_sem, cell_set_ite, ↓IntWalk.iteOmega, edgeV, z0, z1, z2]) rfl ?_
              exact ⟨rfl, ((HE1.out.below.setCell (by simp) _).setCell (by simp) _).setCell (by simp) _⟩
          · have hd0 : ((e0 : Int) != 0) = true := by simp; omega
            rw [if_pos he0]
            clear he0
            go_enter Try.func31, Try.ntmps31
            go_wp2_with fail
            have hEB : EB w.heap.size w ((w.alloc (Obj.cells #[Value.int IntKind.u32 0, Value.int IntKind.u32 0, Value.int IntKind.u32 0] 24)).alloc (Obj.cells #[Value.int IntKind.u32 0, Value.int IntKind.u32 0, Value.int IntKind.u32 0] 24)) := by
              constructor <;> first | exact (ext_alloc w _).alloc (by simp) _ | (simp [go_sem, ↓IntWalk.iteOmega]) | (simp; omega)
            have hEN : EB (w.heap.size + 1) (w.alloc (Obj.cells #[Value.int IntKind.u32 0, Value.int IntKind.u32 0, Value.int IntKind.u32 0] 24)) ((w.alloc (Obj.cells #[Value.int IntKind.u32 0, Value.int IntKind.u32 0, Value.int IntKind.u32 0] 24)).alloc (Obj.cells #[Value.int IntKind.u32 0, Value.int IntKind.u32 0, Value.int IntKind.u32 0] 24)) := by
              constructor <;> first | exact (ext_alloc _ _).mono (by simp) | (simp [go_sem, ↓IntWalk.iteOmega])
            generalize ((w.alloc (Obj.cells #[Value.int IntKind.u32 0, Value.int IntKind.u32 0, Value.int IntKind.u32 0] 24)).alloc (Obj.cells #[Value.int IntKind.u32 0, Value.int IntKind.u32 0, Value.int IntKind.u32 0] 24)) = wA at hEB hEN ⊢
            have HEB := Lib.hid hEB
            have HEN := Lib.hid hEN
            clear hEB hEN
            go_wp2_with (first
              | (go_at_call 53; refine (HW.out _).mono ?_; rintro e w1 ⟨a1, c1, g1, rfl, ho1, hg1, hB1⟩; have HE1 := Lib.hid (HEB.out.ext hB1); have HM1 := Lib.hid (HEN.out.ext hB1); obtain ⟨_, hs2, z0, z1, z2, q0, q1, q2⟩ := HE1.out; obtain ⟨_, hs3, m0, m1, m2, _, _, _⟩ := HM1.out; obtain ⟨bw, _, rfl, hbw⟩ := ho1.pos h1'; have hc0 := (ho1.cell 0 (by omega)).trans hsc; have hc1 := (ho1.cell 1 (by omega)).trans hc1; have Ho1 := Lib.hid ho1; clear hB1 ho1 hg1)
              | (go_at_call 54; (with_reducible refine (HN0.out _).mono ?_); rintro e w2 ⟨rfl, rfl⟩))
            refine bodyPost_ret (v := .tuple #[edgeV (0, 0, 0), .bool false, .int .i64 (e0 : Nat)]) (by simp [results, Try.results31, go_sem, cell_set_ite, ↓IntWalk.iteOmega, edgeV, z0, z1, z2]) rfl ?_
            exact ⟨rfl, ((HE1.out.below.setCell (by simp) _).setCell (by simp) _).setCell (by simp) _⟩
        · obtain ⟨b, d, hb⟩ : ∃ b d, r = [b, d] := by
            match r, hl3, hl1 with
            | [b, d], _, _ => exact ⟨b, d, rfl⟩
            | [], h, _ => simp at h
            | [_], _, h => simp at h
            | _ :: _ :: _ :: _, h, _ => simp at h
          rw [hthree b d hb hmne]
          have hN1 := hnum b 4294967295 (by decide) (by rw [hb]; simp)
          have hN2 := hnum d 2147483647 (by decide) (by rw [hb]; simp)
          have hc1 : sc[1]? = some (.string (bs b)) := by rw [hsc1, hb]; rfl
          have hc2 : sc[2]? = some (.string (bs d)) := by rw [hsc2, hb]; rfl
          have ht3 : ((n : Int) == 3) = true := by simp; omega
          have hir2 : (2 : Int) < n := by omega
          unfold twoE weightOf
          have q0 := (num_bound (c :: a) 4294967295).1
          have q1 := (num_bound b 4294967295).1
          have q2 := (num_bound d 2147483647).1
          have hn3 : 2 < n := by omega
          simp only [numOut, k429, k214] at hN0 hN1 hN2
          clear hmark hmany hm htwo hthree hsc1 hsc2 hnum hpb0 hget hS hmne hr2 hl1 hb hl3 hn hn1
          generalize bs b = S1 at hc1 hN1
          generalize bs d = S2 at hc2 hN2
          generalize num (c :: a) 4294967295 = r0 at hN0 q0 ⊢
          generalize num b 4294967295 = r1 at hN1 q1 ⊢
          generalize num d 2147483647 = r2 at hN2 q2 ⊢
          obtain ⟨v0, e0⟩ := r0
          obtain ⟨v1, e1⟩ := r1
          obtain ⟨v2, e2⟩ := r2
          simp only at hN0 hN1 hN2 q0 q1 q2 ⊢
          have HN0 := Lib.hid hN0
          have HN1 := Lib.hid hN1
          have HN2 := Lib.hid hN2
          clear hN0 hN1 hN2
          have wx0 : (v0 : Int) % 4294967296 = v0 := by omega
          have wx1 : (v1 : Int) % 4294967296 = v1 := by omega
          have wx2 : (v2 : Int) % 4294967296 = v2 := by omega
          by_cases he0 : e0 = 0
          · have hd0 : ((e0 : Int) != 0) = false := by simp [he0]
            rw [if_neg (by omega)]
            by_cases he1 : e1 = 0
            · have hd1 : ((e1 : Int) != 0) = false := by simp [he1]
              rw [if_neg (by omega)]
              by_cases he2 : e2 = 0
              · have hd2 : ((e2 : Int) != 0) = false := by simp [he2]
                simp only [if_neg (show ¬ e2 ≠ 0 by omega)]
                by_cases hv0 : v2 = 0
                · have hd3 : ((v2 : Int) == 0) = true := by simp [hv0]
                  simp only [if_pos hv0]
                  rw [if_pos (by simp)]
                  clear he0 he1 he2 hv0
                  go_enter Try.func31, Try.ntmps31
                  go_wp2_with fail
                  have hEB : EB w.heap.size w ((w.alloc (Obj.cells #[Value.int IntKind.u32 0, Value.int IntKind.u32 0, Value.int IntKind.u32 0] 24)).alloc (Obj.cells #[Value.int IntKind.u32 0, Value.int IntKind.u32 0, Value.int IntKind.u32 0] 24)) := by
                    constructor <;> first | exact (ext_alloc w _).alloc (by simp) _ | (simp [go_sem, ↓IntWalk.iteOmega]) | (simp; omega)
                  have hEN : EB (w.heap.size + 1) (w.alloc (Obj.cells #[Value.int IntKind.u32 0, Value.int IntKind.u32 0, Value.int IntKind.u32 0] 24)) ((w.alloc (Obj.cells #[Value.int IntKind.u32 0, Value.int IntKind.u32 0, Value.int IntKind.u32 0] 24)).alloc (Obj.cells #[Value.int IntKind.u32 0, Value.int IntKind.u32 0, Value.int IntKind.u32 0] 24)) := by
                    constructor <;> first | exact (ext_alloc _ _).mono (by simp) | (simp [go_sem, ↓IntWalk.iteOmega])
                  generalize ((w.alloc (Obj.cells #[Value.int IntKind.u32 0, Value.int IntKind.u32 0, Value.int IntKind.u32 0] 24)).alloc (Obj.cells #[Value.int IntKind.u32 0, Value.int IntKind.u32 0, Value.int IntKind.u32 0] 24)) = wA at hEB hEN ⊢
                  have HEB := Lib.hid hEB
                  have HEN := Lib.hid hEN
                  clear hEB hEN
                  go_wp2_with (first
                    | (go_at_call 53; refine (HW.out _).mono ?_; rintro e w1 ⟨a1, c1, g1, rfl, ho1, hg1, hB1⟩; have HE1 := Lib.hid (HEB.out.ext hB1); have HM1 := Lib.hid (HEN.out.ext hB1); obtain ⟨_, hs2, z0, z1, z2, q0, q1, q2⟩ := HE1.out; obtain ⟨_, hs3, m0, m1, m2, _, _, _⟩ := HM1.out; obtain ⟨bw, _, rfl, hbw⟩ := ho1.pos h1'; have hc0 := (ho1.cell 0 (by omega)).trans hsc; (have hc1 := (ho1.cell 1 (by omega)).trans hc1; have hc2 := (ho1.cell 2 (by omega)).trans hc2); have Ho1 := Lib.hid ho1; clear hB1 ho1 hg1)
                    | (go_at_call 54; (with_reducible refine (HN0.out _).mono ?_); rintro e w2 ⟨rfl, rfl⟩)
                    | (go_at_call 54; (with_reducible refine (HN1.out _).mono ?_); rintro e w2 ⟨rfl, rfl⟩)
                    | (go_at_call 54; (with_reducible refine (HN2.out _).mono ?_); rintro e w2 ⟨rfl, rfl⟩))
                  refine bodyPost_ret (v := .tuple #[edgeV (0, 0, 0), .bool false, .int .i64 9]) (by simp [results, Try.results31, go_sem, cell_set_ite, ↓IntWalk.iteOmega, edgeV, z0, z1, z2]) rfl ?_
                  exact ⟨rfl, ((HE1.out.below.setCell (by simp) _).setCell (by simp) _).setCell (by simp) _⟩
                · have hd3 : ((v2 : Int) == 0) = false := by simp; omega
                  simp only [if_neg hv0]
                  rw [if_neg (by simp)]
                  clear he0 he1 he2 hv0
                  go_enter Try.func31, Try.ntmps31
                  go_wp2_with fail
                  have hEB : EB w.heap.size w ((w.alloc (Obj.cells #[Value.int IntKind.u32 0, Value.int IntKind.u32 0, Value.int IntKind.u32 0] 24)).alloc (Obj.cells #[Value.int IntKind.u32 0, Value.int IntKind.u32 0, Value.int IntKind.u32 0] 24)) := by
                    constructor <;> first | exact (ext_alloc w _).alloc (by simp) _ | (simp [go_sem, ↓IntWalk.iteOmega]) | (simp; omega)
                  have hEN : EB (w.heap.size + 1) (w.alloc (Obj.cells #[Value.int IntKind.u32 0, Value.int IntKind.u32 0, Value.int IntKind.u32 0] 24)) ((w.alloc (Obj.cells #[Value.int IntKind.u32 0, Value.int IntKind.u32 0, Value.int IntKind.u32 0] 24)).alloc (Obj.cells #[Value.int IntKind.u32 0, Value.int IntKind.u32 0, Value.int IntKind.u32 0] 24)) := by
                    constructor <;> first | exact (ext_alloc _ _).mono (by simp) | (simp [go_sem, ↓IntWalk.iteOmega])
                  generalize ((w.alloc (Obj.cells #[Value.int IntKind.u32 0, Value.int IntKind.u32 0, Value.int IntKind.u32 0] 24)).alloc (Obj.cells #[Value.int IntKind.u32 0, Value.int IntKind.u32 0, Value.int IntKind.u32 0] 24)) = wA at hEB hEN ⊢
                  have HEB := Lib.hid hEB
                  have HEN := Lib.hid hEN
                  clear hEB hEN
                  go_wp2_with (first
                    | (go_at_call 53; refine (HW.out _).mono ?_; rintro e w1 ⟨a1, c1, g1, rfl, ho1, hg1, hB1⟩; have HE1 := Lib.hid (HEB.out.ext hB1); have HM1 := Lib.hid (HEN.out.ext hB1); obtain ⟨_, hs2, z0, z1, z2, q0, q1, q2⟩ := HE1.out; obtain ⟨_, hs3, m0, m1, m2, _, _, _⟩ := HM1.out; obtain ⟨bw, _, rfl, hbw⟩ := ho1.pos h1'; have hc0 := (ho1.cell 0 (by omega)).trans hsc; (have hc1 := (ho1.cell 1 (by omega)).trans hc1; have hc2 := (ho1.cell 2 (by omega)).trans hc2); have Ho1 := Lib.hid ho1; clear hB1 ho1 hg1)
                    | (go_at_call 54; (with_reducible refine (HN0.out _).mono ?_); rintro e w2 ⟨rfl, rfl⟩)
                    | (go_at_call 54; (with_reducible refine (HN1.out _).mono ?_); rintro e w2 ⟨rfl, rfl⟩)
                    | (go_at_call 54; (with_reducible refine (HN2.out _).mono ?_); rintro e w2 ⟨rfl, rfl⟩))
                  refine bodyPost_ret (v := .tuple #[edgeV (v0, v1, v2), .bool true, .int .i64 0]) (by simp [results, Try.results31, go_sem, cell_set_ite, ↓IntWalk.iteOmega, edgeV, z0, z1, z2]) rfl ?_
                  exact ⟨rfl, ((HE1.out.below.setCell (by simp) _).setCell (by simp) _).setCell (by simp) _⟩
              · have hd2 : ((e2 : Int) != 0) = true := by simp; omega
                simp only [if_pos he2]
                try rw [if_pos he2]
                clear he0 he1 he2
                go_enter Try.func31, Try.ntmps31
                go_wp2_with fail
                have hEB : EB w.heap.size w ((w.alloc (Obj.cells #[Value.int IntKind.u32 0, Value.int IntKind.u32 0, Value.int IntKind.u32 0] 24)).alloc (Obj.cells #[Value.int IntKind.u32 0, Value.int IntKind.u32 0, Value.int IntKind.u32 0] 24)) := by
                  constructor <;> first | exact (ext_alloc w _).alloc (by simp) _ | (simp [go_sem, ↓IntWalk.iteOmega]) | (simp; omega)
                have hEN : EB (w.heap.size + 1) (w.alloc (Obj.cells #[Value.int IntKind.u32 0, Value.int IntKind.u32 0, Value.int IntKind.u32 0] 24)) ((w.alloc (Obj.cells #[Value.int IntKind.u32 0, Value.int IntKind.u32 0, Value.int IntKind.u32 0] 24)).alloc (Obj.cells #[Value.int IntKind.u32 0, Value.int IntKind.u32 0, Value.int IntKind.u32 0] 24)) := by
                  constructor <;> first | exact (ext_alloc _ _).mono (by simp) | (simp [go_sem, ↓IntWalk.iteOmega])
                generalize ((w.alloc (Obj.cells #[Value.int IntKind.u32 0, Value.int IntKind.u32 0, Value.int IntKind.u32 0] 24)).alloc (Obj.cells #[Value.int IntKind.u32 0, Value.int IntKind.u32 0, Value.int IntKind.u32 0] 24)) = wA at hEB hEN ⊢
                have HEB := Lib.hid hEB
                have HEN := Lib.hid hEN
                clear hEB hEN
                go_wp2_with (first
                  | (go_at_call 53; refine (HW.out _).mono ?_; rintro e w1 ⟨a1, c1, g1, rfl, ho1, hg1, hB1⟩; have HE1 := Lib.hid (HEB.out.ext hB1); have HM1 := Lib.hid (HEN.out.ext hB1); obtain ⟨_, hs2, z0, z1, z2, q0, q1, q2⟩ := HE1.out; obtain ⟨_, hs3, m0, m1, m2, _, _, _⟩ := HM1.out; obtain ⟨bw, _, rfl, hbw⟩ := ho1.pos h1'; have hc0 := (ho1.cell 0 (by omega)).trans hsc; (have hc1 := (ho1.cell 1 (by omega)).trans hc1; have hc2 := (ho1.cell 2 (by omega)).trans hc2); have Ho1 := Lib.hid ho1; clear hB1 ho1 hg1)
                  | (go_at_call 54; (with_reducible refine (HN0.out _).mono ?_); rintro e w2 ⟨rfl, rfl⟩)
                  | (go_at_call 54; (with_reducible refine (HN1.out _).mono ?_); rintro e w2 ⟨rfl, rfl⟩)
                  | (go_at_call 54; (with_reducible refine (HN2.out _).mono ?_); rintro e w2 ⟨rfl, rfl⟩))
                refine bodyPost_ret (v := .tuple #[edgeV (0, 0, 0), .bool false, .int .i64 (e2 : Nat)]) (by simp [results, Try.results31, go_sem, cell_set_ite, ↓IntWalk.iteOmega, edgeV, z0, z1, z2]) rfl ?_
                exact ⟨rfl, ((HE1.out.below.setCell (by simp) _).setCell (by simp) _).setCell (by simp) _⟩
            · have hd1 : ((e1 : Int) != 0) = true := by simp; omega
              rw [if_pos he1]
              clear he0 he1
              go_enter Try.func31, Try.ntmps31
              go_wp2_with fail
              have hEB : EB w.heap.size w ((w.alloc (Obj.cells #[Value.int IntKind.u32 0, Value.int IntKind.u32 0, Value.int IntKind.u32 0] 24)).alloc (Obj.cells #[Value.int IntKind.u32 0, Value.int IntKind.u32 0, Value.int IntKind.u32 0] 24)) := by
                constructor <;> first | exact (ext_alloc w _).alloc (by simp) _ | (simp [go_sem, ↓IntWalk.iteOmega]) | (simp; omega)
              have hEN : EB (w.heap.size + 1) (w.alloc (Obj.cells #[Value.int IntKind.u32 0, Value.int IntKind.u32 0, Value.int IntKind.u32 0] 24)) ((w.alloc (Obj.cells #[Value.int IntKind.u32 0, Value.int IntKind.u32 0, Value.int IntKind.u32 0] 24)).alloc (Obj.cells #[Value.int IntKind.u32 0, Value.int IntKind.u32 0, Value.int IntKind.u32 0] 24)) := by
                constructor <;> first | exact (ext_alloc _ _).mono (by simp) | (simp [go_sem, ↓IntWalk.iteOmega])
              generalize ((w.alloc (Obj.cells #[Value.int IntKind.u32 0, Value.int IntKind.u32 0, Value.int IntKind.u32 0] 24)).alloc (Obj.cells #[Value.int IntKind.u32 0, Value.int IntKind.u32 0, Value.int IntKind.u32 0] 24)) = wA at hEB hEN ⊢
              have HEB := Lib.hid hEB
              have HEN := Lib.hid hEN
              clear hEB hEN
              go_wp2_with (first
                | (go_at_call 53; refine (HW.out _).mono ?_; rintro e w1 ⟨a1, c1, g1, rfl, ho1, hg1, hB1⟩; have HE1 := Lib.hid (HEB.out.ext hB1); have HM1 := Lib.hid (HEN.out.ext hB1); obtain ⟨_, hs2, z0, z1, z2, q0, q1, q2⟩ := HE1.out; obtain ⟨_, hs3, m0, m1, m2, _, _, _⟩ := HM1.out; obtain ⟨bw, _, rfl, hbw⟩ := ho1.pos h1'; have hc0 := (ho1.cell 0 (by omega)).trans hsc; have hc1 := (ho1.cell 1 (by omega)).trans hc1; have Ho1 := Lib.hid ho1; clear hB1 ho1 hg1)
                | (go_at_call 54; (with_reducible refine (HN0.out _).mono ?_); rintro e w2 ⟨rfl, rfl⟩)
                | (go_at_call 54; (with_reducible refine (HN1.out _).mono ?_); rintro e w2 ⟨rfl, rfl⟩))
              refine bodyPost_ret (v := .tuple #[edgeV (0, 0, 0), .bool false, .int .i64 (e1 : Nat)]) (by simp [results, Try.results31, go_sem, cell_set_ite, ↓IntWalk.iteOmega, edgeV, z0, z1, z2]) rfl ?_
              exact ⟨rfl, ((HE1.out.below.setCell (by simp) _).setCell (by simp) _).setCell (by simp) _⟩
          · have hd0 : ((e0 : Int) != 0) = true := by simp; omega
            rw [if_pos he0]
            clear he0
            go_enter Try.func31, Try.ntmps31
            go_wp2_with fail
            have hEB : EB w.heap.size w ((w.alloc (Obj.cells #[Value.int IntKind.u32 0, Value.int IntKind.u32 0, Value.int IntKind.u32 0] 24)).alloc (Obj.cells #[Value.int IntKind.u32 0, Value.int IntKind.u32 0, Value.int IntKind.u32 0] 24)) := by
              constructor <;> first | exact (ext_alloc w _).alloc (by simp) _ | (simp [go_sem, ↓IntWalk.iteOmega]) | (simp; omega)
            have hEN : EB (w.heap.size + 1) (w.alloc (Obj.cells #[Value.int IntKind.u32 0, Value.int IntKind.u32 0, Value.int IntKind.u32 0] 24)) ((w.alloc (Obj.cells #[Value.int IntKind.u32 0, Value.int IntKind.u32 0, Value.int IntKind.u32 0] 24)).alloc (Obj.cells #[Value.int IntKind.u32 0, Value.int IntKind.u32 0, Value.int IntKind.u32 0] 24)) := by
              constructor <;> first | exact (ext_alloc _ _).mono (by simp) | (simp [go_sem, ↓IntWalk.iteOmega])
            generalize ((w.alloc (Obj.cells #[Value.int IntKind.u32 0, Value.int IntKind.u32 0, Value.int IntKind.u32 0] 24)).alloc (Obj.cells #[Value.int IntKind.u32 0, Value.int IntKind.u32 0, Value.int IntKind.u32 0] 24)) = wA at hEB hEN ⊢
            have HEB := Lib.hid hEB
            have HEN := Lib.hid hEN
            clear hEB hEN
            go_wp2_with (first
              | (go_at_call 53; refine (HW.out _).mono ?_; rintro e w1 ⟨a1, c1, g1, rfl, ho1, hg1, hB1⟩; have HE1 := Lib.hid (HEB.out.ext hB1); have HM1 := Lib.hid (HEN.out.ext hB1); obtain ⟨_, hs2, z0, z1, z2, q0, q1, q2⟩ := HE1.out; obtain ⟨_, hs3, m0, m1, m2, _, _, _⟩ := HM1.out; obtain ⟨bw, _, rfl, hbw⟩ := ho1.pos h1'; have hc0 := (ho1.cell 0 (by omega)).trans hsc; have hc1 := (ho1.cell 1 (by omega)).trans hc1; have Ho1 := Lib.hid ho1; clear hB1 ho1 hg1)
              | (go_at_call 54; (with_reducible refine (HN0.out _).mono ?_); rintro e w2 ⟨rfl, rfl⟩))
            refine bodyPost_ret (v := .tuple #[edgeV (0, 0, 0), .bool false, .int .i64 (e0 : Nat)]) (by simp [results, Try.results31, go_sem, cell_set_ite, ↓IntWalk.iteOmega, edgeV, z0, z1, z2]) rfl ?_
            exact ⟨rfl, ((HE1.out.below.setCell (by simp) _).setCell (by simp) _).setCell (by simp) _⟩
      · rw [hmany hmne (by omega)]
        clear hmark hmany hm htwo hthree hsc1 hsc2 hN0 hnum hpb0 hget hS hmne
        by_cases hl1 : n = 1
        · have ht1 : ((n : Int) == 1) = true := by simp [hl1]
          clear hl1 hn1 hn
          go_enter Try.func31, Try.ntmps31
          go_wp2_with fail
          have hEB : EB w.heap.size w ((w.alloc (Obj.cells #[Value.int IntKind.u32 0, Value.int IntKind.u32 0, Value.int IntKind.u32 0] 24)).alloc (Obj.cells #[Value.int IntKind.u32 0, Value.int IntKind.u32 0, Value.int IntKind.u32 0] 24)) := by
            constructor <;> first | exact (ext_alloc w _).alloc (by simp) _ | (simp [go_sem, ↓IntWalk.iteOmega]) | (simp; omega)
          have hEN : EB (w.heap.size + 1) (w.alloc (Obj.cells #[Value.int IntKind.u32 0, Value.int IntKind.u32 0, Value.int IntKind.u32 0] 24)) ((w.alloc (Obj.cells #[Value.int IntKind.u32 0, Value.int IntKind.u32 0, Value.int IntKind.u32 0] 24)).alloc (Obj.cells #[Value.int IntKind.u32 0, Value.int IntKind.u32 0, Value.int IntKind.u32 0] 24)) := by
            constructor <;> first | exact (ext_alloc _ _).mono (by simp) | (simp [go_sem, ↓IntWalk.iteOmega])
          generalize ((w.alloc (Obj.cells #[Value.int IntKind.u32 0, Value.int IntKind.u32 0, Value.int IntKind.u32 0] 24)).alloc (Obj.cells #[Value.int IntKind.u32 0, Value.int IntKind.u32 0, Value.int IntKind.u32 0] 24)) = wA at hEB hEN ⊢
          have HEB := Lib.hid hEB
          have HEN := Lib.hid hEN
          clear hEB hEN
          go_wp2_with (first
            | (go_at_call 53; refine (HW.out _).mono ?_; rintro e w1 ⟨a1, c1, g1, rfl, ho1, hg1, hB1⟩; have HE1 := Lib.hid (HEB.out.ext hB1); have HM1 := Lib.hid (HEN.out.ext hB1); obtain ⟨_, hs2, z0, z1, z2, q0, q1, q2⟩ := HE1.out; obtain ⟨_, hs3, m0, m1, m2, _, _, _⟩ := HM1.out; obtain ⟨bw, _, rfl, hbw⟩ := ho1.pos h1'; have hc0 := (ho1.cell 0 (by omega)).trans hsc; have Ho1 := Lib.hid ho1; clear hB1 ho1 hg1))
          refine bodyPost_ret (v := .tuple #[edgeV (0, 0, 0), .bool false, .int .i64 12]) (by simp [results, Try.results31, go_sem, cell_set_ite, ↓IntWalk.iteOmega, edgeV, z0, z1, z2]) rfl ?_
          exact ⟨rfl, ((HE1.out.below.setCell (by simp) _).setCell (by simp) _).setCell (by simp) _⟩
        · have ht1 : ((n : Int) == 1) = false := by simp; omega
          have ht2 : decide ((3 : Int) < n) = true := decide_eq_true (by omega)
          clear hl1 hn1 hn
          go_enter Try.func31, Try.ntmps31
          go_wp2_with fail
          have hEB : EB w.heap.size w ((w.alloc (Obj.cells #[Value.int IntKind.u32 0, Value.int IntKind.u32 0, Value.int IntKind.u32 0] 24)).alloc (Obj.cells #[Value.int IntKind.u32 0, Value.int IntKind.u32 0, Value.int IntKind.u32 0] 24)) := by
            constructor <;> first | exact (ext_alloc w _).alloc (by simp) _ | (simp [go_sem, ↓IntWalk.iteOmega]) | (simp; omega)
          have hEN : EB (w.heap.size + 1) (w.alloc (Obj.cells #[Value.int IntKind.u32 0, Value.int IntKind.u32 0, Value.int IntKind.u32 0] 24)) ((w.alloc (Obj.cells #[Value.int IntKind.u32 0, Value.int IntKind.u32 0, Value.int IntKind.u32 0] 24)).alloc (Obj.cells #[Value.int IntKind.u32 0, Value.int IntKind.u32 0, Value.int IntKind.u32 0] 24)) := by
            constructor <;> first | exact (ext_alloc _ _).mono (by simp) | (simp [go_sem, ↓IntWalk.iteOmega])
          generalize ((w.alloc (Obj.cells #[Value.int IntKind.u32 0, Value.int IntKind.u32 0, Value.int IntKind.u32 0] 24)).alloc (Obj.cells #[Value.int IntKind.u32 0, Value.int IntKind.u32 0, Value.int IntKind.u32 0] 24)) = wA at hEB hEN ⊢
          have HEB := Lib.hid hEB
          have HEN := Lib.hid hEN
          clear hEB hEN
          go_wp2_with (first
            | (go_at_call 53; refine (HW.out _).mono ?_; rintro e w1 ⟨a1, c1, g1, rfl, ho1, hg1, hB1⟩; have HE1 := Lib.hid (HEB.out.ext hB1); have HM1 := Lib.hid (HEN.out.ext hB1); obtain ⟨_, hs2, z0, z1, z2, q0, q1, q2⟩ := HE1.out; obtain ⟨_, hs3, m0, m1, m2, _, _, _⟩ := HM1.out; obtain ⟨bw, _, rfl, hbw⟩ := ho1.pos h1'; have hc0 := (ho1.cell 0 (by omega)).trans hsc; have Ho1 := Lib.hid ho1; clear hB1 ho1 hg1))
          refine bodyPost_ret (v := .tuple #[edgeV (0, 0, 0), .bool false, .int .i64 12]) (by simp [results, Try.results31, go_sem, cell_set_ite, ↓IntWalk.iteOmega, edgeV, z0, z1, z2]) rfl ?_
          exact ⟨rfl, ((HE1.out.below.setCell (by simp) _).setCell (by simp) _).setCell (by simp) _⟩
end Go.Proofs.Ytafbjkbdfdeacaa
