/- Top.Put: the kept ones are the best ones of those that were put. -/
import Derived.Handy
import Derived.Test.YtggcmnjllkncaaaBestFix
import Derived.Test.YtggcmnjllkncaaaBestHPush
namespace Go.Proofs.Ytggcmnjllkncaaa
set_option linter.unusedSimpArgs false
set_option linter.unusedVariables false
set_option maxRecDepth 100000
open Go.RowKit

/-- the top at t, with the kept ones in a block of its own, has the best ones of l -/
def TopS (w : World) (t m : Nat) (g : Option Nat) (l : List VisD) : Prop := ∃ A, A.Perm (bestL l m) ∧ hpV A ∧ KeptO w t (.int .i64 (m : Nat)) g A
def PutRet (t m : Nat) (g : Option Nat) (l : List VisD) (w w' : World) : Prop := ∃ g', TopS w' t m g' l ∧ (g' = g ∨ ∃ k, g' = some k ∧ w.heap.size ≤ k) ∧ Only (fun k => k = t ∨ g = some k) w w'
theorem hpV_nil : hpV [] := fun k _ h => by simp at h
theorem KeptO.ext {w w' : World} {t : Nat} {mv : Value} {g : Option Nat} {A : List VisD} (h : KeptO w t mv g A) (hB : Below w.heap.size w w') : KeptO w' t mv g A := by
  obtain ⟨ao, cap, h1, h2, h3⟩ := h
  exact ⟨ao, cap, (hB.block t (Array.getElem?_eq_some_iff.1 h1).1).trans h1, h2.ext hB, h3⟩
theorem TopS.ext {w w' : World} {t m : Nat} {g : Option Nat} {l : List VisD} (h : TopS w t m g l) (hB : Below w.heap.size w w') : TopS w' t m g l := by
  obtain ⟨A, h1, h2, h3⟩ := h
  exact ⟨A, h1, h2, h3.ext hB⟩
theorem KeptO.keep {w w' : World} {t : Nat} {mv : Value} {g : Option Nat} {A : List VisD} (h : KeptO w t mv g A) (hk : ∀ b, (b = t ∨ g = some b) → b < w.heap.size → w'.heap[b]? = w.heap[b]?) (hs : w.heap.size ≤ w'.heap.size) : KeptO w' t mv g A := by
  obtain ⟨ao, cap, h1, h2, h3⟩ := h
  exact ⟨ao, cap, (hk t (.inl rfl) (Array.getElem?_eq_some_iff.1 h1).1).trans h1, h2.keep (fun b hb hl => hk b (.inr (hb.resolve_left id)) hl) hs, h3⟩
theorem TopS.keep {w w' : World} {t m : Nat} {g : Option Nat} {l : List VisD} (h : TopS w t m g l) (hk : ∀ b, (b = t ∨ g = some b) → b < w.heap.size → w'.heap[b]? = w.heap[b]?) (hs : w.heap.size ≤ w'.heap.size) : TopS w' t m g l := by
  obtain ⟨A, h1, h2, h3⟩ := h
  exact ⟨A, h1, h2, h3.keep hk hs⟩
theorem TopS.lt {w : World} {t m : Nat} {g : Option Nat} {l : List VisD} (h : TopS w t m g l) : t < w.heap.size ∧ ∀ b, g = some b → b < w.heap.size ∧ b ≠ t := by
  obtain ⟨A, h1, h2, ao, cap, h3, h4, h5⟩ := h
  exact ⟨(Array.getElem?_eq_some_iff.1 h3).1, fun b hb => ⟨h4.lt b hb, fun e => h5 (by rw [hb, e])⟩⟩
theorem TopS.new {w : World} {t m : Nat} (h : TopAt w t (.int .i64 (m : Nat)) none 0 0) : TopS w t m none [] :=
  ⟨[], by simp [bestL, sortV], hpV_nil, none, 0, h, OwnS.nil _ _ _ _, by simp⟩
set_option maxRecDepth 100000 in
set_option maxHeartbeats 1600000 in
theorem tput_nil (x : VisD) (w : World) : Calls Try.prog 10 #[.pointer none, .agg (visCs x).toArray] w (RetB (.tuple #[]) w) := by
  obtain ⟨x0, x1, x2⟩ := x
  simp only [visCs]
  go_enter Try.func10, Try.ntmps10
  go_wp2_with fail
  go_end0
  exact ⟨rfl, ext_alloc _ _⟩
set_option maxRecDepth 100000 in
set_option maxHeartbeats 3200000 in
theorem tput_any (l : List VisD) (x : VisD) (t m : Nat) (g : Option Nat) (w : World) (hl : l.length < 1000000) (hm : m ≤ 9223372036854775807) (hx : okV x) (hT : TopS w t m g l) :
    Calls Try.prog 10 #[.pointer (some ⟨t, 0, none⟩), .agg (visCs x).toArray] w fun e w' => e = .returned (.tuple #[]) ∧ PutRet t m g (l ++ [x]) w w' := by
  obtain ⟨A, hp, hh, hK⟩ := hT
  have hlen : A.length = min m l.length := by rw [hp.length_eq, bestL_len]
  have HX := Lib.hid hx
  have HP := Lib.hid hp
  have HH := Lib.hid hh
  have HK := Lib.hid hK
  obtain ⟨ao, cap, hTA, hO, hgt⟩ := hK
  have htl : t < w.heap.size := (Array.getElem?_eq_some_iff.1 hTA).1
  have c0 := cell_of_row w t 0 _ _ (0, 0) hTA
  have c1 := cell_of_row w t 1 _ _ (0, 0) hTA
  obtain ⟨x0, x1, x2⟩ := x
  simp only [visCs]
  by_cases hm0 : m = 0
  · subst hm0
    have hA0 : A = [] := List.eq_nil_of_length_eq_zero (by omega)
    have hbn : bestL (l ++ [(x0, x1, x2)]) 0 = [] := by simp [bestL]
    have HB := Lib.hid (show PutRet t 0 g (l ++ [(x0, x1, x2)]) w (w.alloc (.cells #[.int .u32 (x0 : Nat), .int .u32 (x1 : Nat), .int .u64 (x2 : Nat)] 31)) from ⟨g, ⟨[], by rw [hbn], hpV_nil, hA0 ▸ HK.out.ext (ext_alloc _ _)⟩, .inl rfl, Only.of_below (ext_alloc _ _)⟩)
    clear hbn hA0 hp hh hO hTA hlen hl hm
    go_enter Try.func10, Try.ntmps10
    go_wp2_with fail
    go_end0
    exact ⟨rfl, HB.out⟩
  · have hz : ((m : Int) == 0) = false := by simp; omega
    by_cases hfull : A.length < m
    · have hd : decide ((A.length : Int) < (m : Int)) = true := decide_eq_true (by omega)
      have HL := Lib.hid hl
      have HF := Lib.hid hfull
      have hgl := hO.lt
      have HPU := Lib.hid (fun W (hB : Below w.heap.size w W) (hs : w.heap.size < W.heap.size) => (hpush_any A (x0, x1, x2) t (.int .i64 (m : Nat)) g W (by omega) hx HH.out (HK.out.ext hB)).mono
        (R' := fun e w' => e = .returned (.tuple #[]) ∧ PutRet t m g (l ++ [(x0, x1, x2)]) w w' ∧ ∀ o, w'.cell? ⟨w.heap.size, o, none⟩ = W.cell? ⟨w.heap.size, o, none⟩) (by
          rintro e w2 ⟨rfl, A', g', hp', hh', hk', hg', ho'⟩
          refine ⟨rfl, ⟨g', ⟨A', hp'.trans ((List.perm_append_singleton _ _).trans (put_room _ HP.out hfull)), hh', hk'⟩, ?_, (Only.of_below hB).trans ho' (fun _ _ h => h)⟩, fun o => ho'.cell hs ?_ o⟩
          · rcases hg' with h | ⟨k, h, h2⟩
            · exact .inl h
            · exact .inr ⟨k, h, by have := hB.size; omega⟩
          · rintro (h | h)
            · omega
            · have := hgl _ h; omega))
      simp only [visCs] at HPU
      clear hgl
      clear hp hh hO hTA hlen hl hm hfull hx
      go_enter Try.func10, Try.ntmps10
      go_wp2_with fail
      go_quiet (fail)
      go_wp2_with fail
      go_region_held3 (fun w' => w'.cell? ⟨w.heap.size, 0, none⟩ = some (.int .u32 (x0 : Nat)) ∧ w'.cell? ⟨w.heap.size, 1, none⟩ = some (.int .u32 (x1 : Nat)) ∧ w'.cell? ⟨w.heap.size, 2, none⟩ = some (.int .u64 (x2 : Nat)))
        (first | exact ⟨by simp [go_sem], by simp [go_sem], by simp [go_sem]⟩ | exact ⟨HP3.out.1, HP3.out.2.1, HP3.out.2.2⟩)
        (first
          | (go_at_call 18; refine (HPU.out _ (below_drewN (ext_alloc w _) _).drew (by simp)).mono ?_; rintro e w2 ⟨rfl, hR, hcell⟩; have HR := Lib.hid hR; have HP3 := Lib.hid (⟨(hcell 0).trans (by simp [go_sem]), (hcell 1).trans (by simp [go_sem]), (hcell 2).trans (by simp [go_sem])⟩ : w2.cell? ⟨w.heap.size, 0, none⟩ = some (.int .u32 (x0 : Nat)) ∧ w2.cell? ⟨w.heap.size, 1, none⟩ = some (.int .u32 (x1 : Nat)) ∧ w2.cell? ⟨w.heap.size, 2, none⟩ = some (.int .u64 (x2 : Nat))); clear hR hcell)
          | fail "no arm")
      go_wp2_with fail
      go_end0
      exact ⟨rfl, HR.out⟩
    · have hAm : A.length = m := by omega
      have hd : decide ((A.length : Int) < (m : Int)) = false := decide_eq_false (by omega)
      obtain ⟨k, rfl, rfl⟩ := hO.block (by omega)
      obtain ⟨r, K, hAK⟩ : ∃ r K, A = r :: K := by
        cases A with
        | nil => simp at hAm; omega
        | cons r K => exact ⟨r, K, rfl⟩
      have hv0 : vat A 0 = r := by rw [hAK]; rfl
      have hroot : ∀ y ∈ K, betV r y = false := fun y hy => by
        obtain ⟨j, hj, rfl⟩ := List.getElem_of_mem hy
        have h1 := hpV_root hh (j + 1) (by rw [hAK]; simp; exact hj)
        rw [hv0, vat_get (by rw [hAK]; simp; exact hj)] at h1
        simp only [hAK, List.getElem_cons_succ] at h1
        exact h1
      have hfull2 := put_full (x0, x1, x2) r (hAK ▸ hp) (by rw [← hAm, hAK]; rfl) hroot
      have Hfull := Lib.hid hfull2
      have hKA : KeptAt w t (.int .i64 (m : Nat)) k cap A := ⟨hTA, hO, fun e => hgt (by rw [e])⟩
      have HKA := Lib.hid hKA
      have hkl := hO.lt k rfl
      obtain ⟨b0, off, hab, _, _, y0, y1, y2, _⟩ := hO.rd.vis 0 (by omega)
      cases hab
      rw [hv0] at y0 y1 y2
      obtain ⟨r0, r1, r2⟩ := r
      simp only [Nat.zero_add, Nat.zero_mul] at y0 y1 y2
      obtain ⟨n, hn⟩ : ∃ n, A.length = n := ⟨_, rfl⟩
      have HN := Lib.hid hn
      have h1n : (0 : Int) < (n : Int) := by omega
      have hn0 : 0 < n := by omega
      have HA := Lib.hid hAK
      rw [hn] at hTA c0 c1 hd hfull
      have hd2 : decide (n < m) = false := decide_eq_false (by omega)
      have HL := Lib.hid hl
      have HM := Lib.hid hAm
      have HO2 := Lib.hid (fun W => order_any (x0, x1, x2) (r0, r1, r2) W)
      simp only [visCs] at HO2
      obtain ⟨W1, hW1⟩ : ∃ W1, w.alloc (.cells #[.int .u32 (x0 : Nat), .int .u32 (x1 : Nat), .int .u64 (x2 : Nat)] 31) = W1 := ⟨_, rfl⟩
      have B1 := Lib.hid (show Below w.heap.size w W1 by rw [← hW1]; exact ext_alloc w _)
      have HZ := Lib.hid (show w.heap.size < W1.heap.size by rw [← hW1]; simp)
      have HC := Lib.hid (show ∀ W, Below W1.heap.size W1 W → (W.cell? ⟨w.heap.size, 0, none⟩ = some (.int .u32 (x0 : Nat)) ∧ W.cell? ⟨w.heap.size, 1, none⟩ = some (.int .u32 (x1 : Nat)) ∧ W.cell? ⟨w.heap.size, 2, none⟩ = some (.int .u64 (x2 : Nat))) ∧ W.cell? ⟨k, 0, none⟩ = some (.int .u32 (r0 : Nat)) ∧ W.cell? ⟨k, 1, none⟩ = some (.int .u32 (r1 : Nat)) ∧ W.cell? ⟨k, 2, none⟩ = some (.int .u64 (r2 : Nat)) ∧ W.cell? ⟨t, 0, none⟩ = some (.int .i64 (m : Nat)) ∧ W.cell? ⟨t, 1, none⟩ = some (.slice (some ⟨k, 0, none⟩) n cap) from fun W hB => by
        have hB2 := B1.out.trans (hB.mono (Nat.le_of_lt HZ.out))
        have hz := HZ.out
        refine ⟨⟨((bcell hB).1 _ _ hz).trans ?_, ((bcell hB).1 _ _ hz).trans ?_, ((bcell hB).1 _ _ hz).trans ?_⟩, ((bcell hB2).1 _ _ hkl).trans y0, ((bcell hB2).1 _ _ hkl).trans y1, ((bcell hB2).1 _ _ hkl).trans y2, ((bcell hB2).1 _ _ htl).trans c0, ((bcell hB2).1 _ _ htl).trans c1⟩ <;> (rw [← hW1]; simp [go_sem]))
      have hc1 := HC.out _ (Below.refl _ _)
      obtain ⟨⟨xc0, xc1, xc2⟩, yc0, yc1, yc2, mc, kc⟩ := hc1
      clear c1 y0 y1 y2 hO hTA hfull2 hroot hp hh hlen hl hm hAm hfull hn hAK hx hKA hgt
      cases hb : betV (x0, x1, x2) (r0, r1, r2) with
      | false =>
        have ho : decide (ordV (x0, x1, x2) (r0, r1, r2) < 0) = false := by
          rw [← hb, Bool.eq_iff_iff, decide_eq_true_eq]; exact ordV_lt _ _
        go_enter Try.func10, Try.ntmps10
        go_wp2_with fail
        clear c0 hW1
        go_quiet (fail)
        go_wp2_with fail
        go_region_held3 (fun w' => (w'.cell? ⟨w.heap.size, 0, none⟩ = some (.int .u32 (x0 : Nat)) ∧ w'.cell? ⟨w.heap.size, 1, none⟩ = some (.int .u32 (x1 : Nat)) ∧ w'.cell? ⟨w.heap.size, 2, none⟩ = some (.int .u64 (x2 : Nat))) ∧ w'.cell? ⟨k, 0, none⟩ = some (.int .u32 (r0 : Nat)) ∧ w'.cell? ⟨k, 1, none⟩ = some (.int .u32 (r1 : Nat)) ∧ w'.cell? ⟨k, 2, none⟩ = some (.int .u64 (r2 : Nat)) ∧ w'.cell? ⟨t, 0, none⟩ = some (.int .i64 (m : Nat)) ∧ w'.cell? ⟨t, 1, none⟩ = some (.slice (some ⟨k, 0, none⟩) n cap))
          (first | exact HC.out _ (ext_drewN W1 _).drew | exact HC.out _ B2.out)
          (first
            | (go_at_call 19; (with_reducible refine (HO2.out _).mono ?_); rintro e w2 ⟨rfl, hx⟩; have B2 := Lib.hid ((ext_drewN W1 _).trans (hx.mono (by simp))); clear hx)
            | fail "no arm")
        go_wp2_with fail
        go_end0
        refine ⟨rfl, some k, ⟨A, by rw [HA.out]; exact Hfull.out.2 hb, HH.out, HK.out.ext (B1.out.trans (B2.out.mono (Nat.le_of_lt HZ.out)))⟩, .inl rfl, Only.of_below (B1.out.trans (B2.out.mono (Nat.le_of_lt HZ.out)))⟩
      | true =>
        have ho : decide (ordV (x0, x1, x2) (r0, r1, r2) < 0) = true := by
          rw [← hb, Bool.eq_iff_iff, decide_eq_true_eq]; exact ordV_lt _ _
        go_enter Try.func10, Try.ntmps10
        go_wp2_with fail
        clear c0 hW1
        go_quiet (fail)
        go_wp2_with fail
        go_region_held3 (fun w' => (w'.cell? ⟨w.heap.size, 0, none⟩ = some (.int .u32 (x0 : Nat)) ∧ w'.cell? ⟨w.heap.size, 1, none⟩ = some (.int .u32 (x1 : Nat)) ∧ w'.cell? ⟨w.heap.size, 2, none⟩ = some (.int .u64 (x2 : Nat))) ∧ w'.cell? ⟨k, 0, none⟩ = some (.int .u32 (r0 : Nat)) ∧ w'.cell? ⟨k, 1, none⟩ = some (.int .u32 (r1 : Nat)) ∧ w'.cell? ⟨k, 2, none⟩ = some (.int .u64 (r2 : Nat)) ∧ w'.cell? ⟨t, 0, none⟩ = some (.int .i64 (m : Nat)) ∧ w'.cell? ⟨t, 1, none⟩ = some (.slice (some ⟨k, 0, none⟩) n cap))
          (first | exact HC.out _ (ext_drewN W1 _).drew | exact HC.out _ B2.out)
          (first
            | (go_at_call 19; (with_reducible refine (HO2.out _).mono ?_); rintro e w2 ⟨rfl, hx⟩; have B2 := Lib.hid ((ext_drewN W1 _).trans (hx.mono (by simp))); clear hx)
            | fail "no arm")
        go_wp2_with fail
        have Hx := Lib.hid (B1.out.trans (B2.out.mono (Nat.le_of_lt HZ.out)))
        have HO3 := Lib.hid (HKA.out.ext Hx.out.drew).2.1
        have Hth := Lib.hid (show w2.drew.there k 0 3 from (Nat.zero_mul 3) ▸ HO3.out.there (k := 0) (by rw [HN.out]; exact hn0))
        have HO4 := Lib.hid (show OwnS visRep (fun _ => False) (w2.drew.setCells k 0 [.int .u32 (x0 : Nat), .int .u32 (x1 : Nat), .int .u64 (x2 : Nat)]) (some ⟨k, 0, none⟩) cap (some k) 31 (A.set 0 (x0, x1, x2)) from by
          have := HO3.out.setAt (fun _ h => h.elim) (k := 0) (by rw [HN.out]; exact hn0) (x := (x0, x1, x2)) (cs := [.int .u32 (x0 : Nat), .int .u32 (x1 : Nat), .int .u64 (x2 : Nat)]) (visRep_ok HX.out)
          rwa [Nat.zero_mul] at this)
        refine wp_region_held (S := fun w' => (w'.cell? ⟨w.heap.size, 0, none⟩ = some (.int .u32 (x0 : Nat)) ∧ w'.cell? ⟨w.heap.size, 1, none⟩ = some (.int .u32 (x1 : Nat)) ∧ w'.cell? ⟨w.heap.size, 2, none⟩ = some (.int .u64 (x2 : Nat))) ∧ w'.cell? ⟨t, 1, none⟩ = some (.slice (some ⟨k, 0, none⟩) n cap)) (by kernel_rfl) ?_
        have hS0 : (w2.drew.cell? ⟨w.heap.size, 0, none⟩ = some (.int .u32 (x0 : Nat)) ∧ w2.drew.cell? ⟨w.heap.size, 1, none⟩ = some (.int .u32 (x1 : Nat)) ∧ w2.drew.cell? ⟨w.heap.size, 2, none⟩ = some (.int .u64 (x2 : Nat))) ∧ w2.drew.cell? ⟨t, 1, none⟩ = some (.slice (some ⟨k, 0, none⟩) n cap) := by
          have h := HC.out _ B2.out.drew
          exact ⟨h.1, h.2.2.2.2.2⟩
        change wpAnyH _ _ _ _ _ _ _ _ (World.drew _)
        refine wpAnyH_take (i := 0) (oi := ⟨some 42, _, _, _, _, _⟩) (v := ?_) rfl (by kernel_rfl) (by kernel_rfl) (by kernel_rfl) (fun _ _ _ h => h) (Or.inl ⟨by rfl, ?_⟩) hS0 ?_
        rotate_left
        · (intro w' hSw; obtain ⟨⟨s0, s1, s2⟩, s3⟩ := hSw; go_simp; try (with_reducible rfl))
        simp only [Act.put, List.setIfInBounds_toArray, List.set_cons_zero, List.set_cons_succ]
        refine wpAnyH_take (i := 1) (oi := ⟨some 43, _, _, _, _, _⟩) (v := ?_) rfl (by kernel_rfl) (by kernel_rfl) (by kernel_rfl) (fun _ _ _ h => h) (Or.inl ⟨by rfl, ?_⟩) hS0 ?_
        rotate_left
        · (intro w' hSw; obtain ⟨⟨s0, s1, s2⟩, s3⟩ := hSw; go_simp; try (with_reducible rfl))
        simp only [Act.put, List.setIfInBounds_toArray, List.set_cons_zero, List.set_cons_succ]
        refine wpAnyH_take (i := 2) (oi := ⟨some 44, _, _, _, _, _⟩) (v := ?_) rfl (by kernel_rfl) (by kernel_rfl) (by kernel_rfl) (fun _ _ _ h => h) (Or.inl ⟨by rfl, ?_⟩) hS0 ?_
        rotate_left
        · (intro w' hSw; obtain ⟨⟨s0, s1, s2⟩, s3⟩ := hSw; go_simp; try (with_reducible rfl))
        simp only [Act.put, List.setIfInBounds_toArray, List.set_cons_zero, List.set_cons_succ]
        refine wpAnyH_take (i := 3) (oi := ⟨some 45, _, _, _, _, _⟩) (v := ?_) rfl (by kernel_rfl) (by kernel_rfl) (by kernel_rfl) (fun _ _ _ h => h) (Or.inl ⟨by rfl, ?_⟩) hS0 ?_
        rotate_left
        · (intro w' hSw; obtain ⟨⟨s0, s1, s2⟩, s3⟩ := hSw; go_simp; try (with_reducible rfl))
        simp only [Act.put, List.setIfInBounds_toArray, List.set_cons_zero, List.set_cons_succ]
        refine wpAnyH_take (i := 4) (oi := ⟨some 46, _, _, _, _, _⟩) (v := ?_) rfl (by kernel_rfl) (by kernel_rfl) (by kernel_rfl) (fun _ _ _ h => h) (Or.inl ⟨by rfl, ?_⟩) hS0 ?_
        rotate_left
        · (intro w' hSw; obtain ⟨⟨s0, s1, s2⟩, s3⟩ := hSw; go_simp; try (with_reducible rfl))
        simp only [Act.put, List.setIfInBounds_toArray, List.set_cons_zero, List.set_cons_succ]
        refine wpAnyH_take (i := 5) (oi := ⟨some 47, _, _, _, _, _⟩) (v := ?_) rfl (by kernel_rfl) (by kernel_rfl) (by kernel_rfl) (fun _ _ _ h => h) (Or.inl ⟨by rfl, ?_⟩) hS0 ?_
        rotate_left
        · (intro w' hSw; obtain ⟨⟨s0, s1, s2⟩, s3⟩ := hSw; go_simp; try (with_reducible rfl))
        simp only [Act.put, List.setIfInBounds_toArray, List.set_cons_zero, List.set_cons_succ]
        refine wpAnyH_all (rs := [6]) (by kernel_rfl) (by simp) ?_
        intro i hi
        rw [List.mem_singleton] at hi
        subst hi
        refine wpOp_runG (o := ⟨none, _, _, _, _, _⟩) rfl rfl fun K' hK => ?_
        refine wp_store_mid _ _ _ rfl k 0 #[.int .u32 (x0 : Nat), .int .u32 (x1 : Nat), .int .u64 (x2 : Nat)] rfl rfl Hth.out (by kernel_rfl) (by simp [Value.oneCell']) ?_
        have hzw : w.heap.size < w2.drew.heap.size := Nat.lt_of_lt_of_le HZ.out B2.out.drew.size
        have htw : t < w2.drew.heap.size := Nat.lt_trans htl hzw
        have hnk : ¬ w.heap.size = k := by omega
        have htk : ¬ t = k := fun e => HKA.out.2.2 e.symm
        have hon := only_setCells k [.int .u32 (x0 : Nat), .int .u32 (x1 : Nat), .int .u64 (x2 : Nat)] 0 w2.drew
        refine hK _ _ ⟨⟨⟨(hon.cell hzw hnk 0).trans hS0.1.1, (hon.cell hzw hnk 1).trans hS0.1.2.1, (hon.cell hzw hnk 2).trans hS0.1.2.2⟩, (hon.cell htw htk 1).trans hS0.2⟩, ?_⟩
        clear hK K'
        try simp only [Act.put, List.setIfInBounds_toArray, List.set_cons_zero, List.set_cons_succ]
        refine wpAnyH_done (by kernel_rfl) ?_ _
        obtain ⟨w3, hw3⟩ : ∃ w3, World.setCells w2.drew k 0 [.int .u32 (x0 : Nat), .int .u32 (x1 : Nat), .int .u64 (x2 : Nat)] = w3 := ⟨_, rfl⟩
        rw [hw3] at HO4 hon ⊢
        have Hon := Lib.hid hon
        have hKA3 : KeptAt w3 t (.int .i64 (m : Nat)) k cap (A.set 0 (x0, x1, x2)) := ⟨by
          unfold TopAt
          rw [List.length_set]
          exact (hon.same t htw htk).trans (HKA.out.ext Hx.out.drew).1, HO4.out, HKA.out.2.2⟩
        have hfx := hfix_any (A.set 0 (x0, x1, x2)) t (.int .i64 (m : Nat)) k cap w3 (by rw [List.length_set, HM.out]; have h1 := (HKA.out.2.1).rd; have h2 := HP.out.length_eq; rw [bestL_len] at h2; have := HL.out; have := HM.out; omega) (by rw [List.length_set, HN.out]; exact hn0) (dnV_root HH.out _) hKA3
        clear hw3 hS0 hnk hzw hon hKA3 xc0 xc1 xc2 yc0 yc1 yc2 mc kc
        go_wp2_with (first
          | (refine hfx.mono ?_; rintro e w4 ⟨rfl, hR⟩; clear hfx; have HR := Lib.hid hR; clear hR))
        go_end0
        obtain ⟨A2, hp2, hh2, hk2, ho2⟩ := HR.out
        have e2 : A.set 0 (x0, x1, x2) = (x0, x1, x2) :: K := by rw [HA.out]; rfl
        refine ⟨rfl, some k, ⟨A2, (hp2.trans (by rw [e2])).trans (Hfull.out.1 hb), hh2, _, cap, hk2.1, hk2.2.1, fun e => hk2.2.2 (Option.some.inj e)⟩, .inl rfl, ?_⟩
        exact (((Only.of_below (fp := fun j => j = t ∨ some k = some j) Hx.out.drew).trans Hon.out (fun j _ e => .inr (by rw [e])))).trans ho2 (fun j _ e => .inr (by rw [e]))
end Go.Proofs.Ytggcmnjllkncaaa
