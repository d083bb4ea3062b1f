/- The keys of the map of tops, gathered in whatever order, and sorted. -/
import Derived.Test.YtggcmnjllkncaaaBestTops
import Derived.Test.YtggcmnjllkncaaaU32s
import Derived.Test.YtggcmnjllkncaaaSortNil
import Derived.Maps.RangeWalk
namespace Go.Proofs.Ytggcmnjllkncaaa
set_option linter.unusedSimpArgs false
set_option linter.unusedVariables false
set_option maxRecDepth 100000
open Go.RowKit

def KeysS (K : List (Nat × Nat)) (seen : Array Nat) (xs : List Nat) : Prop :=
  xs.Nodup ∧ (∀ s, s ∈ xs ↔ ∃ e ∈ ents K, e.born ∈ seen ∧ e.key = .int .u32 (s : Nat)) ∧ xs.length + (leftOf (ents K).toArray seen).size ≤ K.length
theorem KeysS.nil (K : List (Nat × Nat)) : KeysS K #[] [] := by
  refine ⟨.nil, fun s => ⟨fun h => (by cases h), fun ⟨e, _, h, _⟩ => (by simp at h)⟩, ?_⟩
  have : (leftOf (ents K).toArray #[]).size ≤ (ents K).toArray.size := by unfold leftOf; exact Array.size_filter_le
  simpa [ents_len] using this
theorem KeysS.step {K : List (Nat × Nat)} {seen : Array Nat} {xs : List Nat} (h : KeysS K seen xs) (hn : (K.map (·.1)).Nodup) {e : MapEntry} (he : e ∈ (leftOf (ents K).toArray seen).toList) {s : Nat} (hs : e.key = .int .u32 (s : Nat)) : KeysS K (seen.push e.born) (xs ++ [s]) := by
  obtain ⟨h1, h2, h3⟩ := h
  obtain ⟨hm, hns⟩ := mem_left he
  have hm : e ∈ ents K := by simpa using hm
  have hns : ¬ e.born ∈ seen := by simpa using hns
  refine ⟨?_, fun t => ?_, ?_⟩
  · rw [List.nodup_append]
    refine ⟨h1, by simp, fun a ha b hb hab => ?_⟩
    rw [List.mem_singleton] at hb
    subst hb
    subst hab
    obtain ⟨e', he', hb', hk'⟩ := (h2 a).1 ha
    obtain ⟨p, hp, hk, _, hlt, hget⟩ := ents_mem hm
    obtain ⟨q, hq, hkq, _, hltq, hgetq⟩ := ents_mem he'
    rw [hs] at hk
    rw [hk'] at hkq
    have e1 : (a : Int) = p.1 := by injection hk
    have e2 : (a : Int) = q.1 := by injection hkq
    have hp2 := (List.getElem?_eq_some_iff.1 hget).2
    have hq2 := (List.getElem?_eq_some_iff.1 hgetq).2
    have := fst_inj hn hlt hltq (by rw [hp2, hq2]; omega)
    rw [this] at hns
    exact hns hb'
  · rw [List.mem_append, List.mem_singleton]
    constructor
    · rintro (h | rfl)
      · obtain ⟨e', he', hb', hk'⟩ := (h2 t).1 h
        exact ⟨e', he', Array.mem_push.2 (.inl hb'), hk'⟩
      · exact ⟨e, hm, Array.mem_push.2 (.inr rfl), hs⟩
    · rintro ⟨e', he', hb', hk'⟩
      rcases Array.mem_push.1 hb' with hb' | hb'
      · exact .inl ((h2 t).2 ⟨e', he', hb', hk'⟩)
      · have := born_one (ents_born K) he' hm hb'
        subst this
        rw [hs] at hk'
        right
        have : (s : Int) = t := by injection hk'
        omega
  · have := left_shrinks (ents K).toArray seen e he
    rw [List.length_append, List.length_singleton]
    omega
theorem KeysS.done {K : List (Nat × Nat)} {seen : Array Nat} {xs : List Nat} (h : KeysS K seen xs) (h0 : (leftOf (ents K).toArray seen).size = 0) : ∀ s, s ∈ xs ↔ s ∈ K.map (·.1) := fun s => by
  rw [h.2.1 s]
  constructor
  · rintro ⟨e, he, _, hk⟩
    obtain ⟨p, hp, hkp, _⟩ := ents_mem he
    rw [hk] at hkp
    have : (s : Int) = p.1 := by injection hkp
    exact List.mem_map.2 ⟨p, hp, by omega⟩
  · intro hs
    obtain ⟨p, hp, rfl⟩ := List.mem_map.1 hs
    obtain ⟨i, hi, rfl⟩ := List.mem_iff_getElem.1 hp
    have hg := ents_get hi
    have hm := List.mem_of_getElem? hg
    refine ⟨_, hm, ?_, rfl⟩
    by_cases hb : i ∈ seen
    · exact hb
    · have : (⟨.int .u32 (K[i].1 : Nat), .pointer (some ⟨K[i].2, 0, none⟩), i⟩ : MapEntry) ∈ leftOf (ents K).toArray seen := by simp [leftOf, hm, hb]
      rw [Array.eq_empty_of_size_eq_zero h0] at this
      simp at this
def SortedU (xs : List Nat) (ao : Option Addr) (g : Option Nat) (w : World) (e : Ending) (w' : World) : Prop :=
  e = .returned (.tuple #[]) ∧ ∃ S : List Nat, S.Perm xs ∧ S.Pairwise (· ≤ ·) ∧ (∀ i (h : i < S.length), ∃ b, ao = some ⟨b, 0, none⟩ ∧ b < w'.heap.size ∧ g = some b ∧ w'.cell? ⟨b, i, none⟩ = some (.int .u32 (S[i] : Nat))) ∧ Only (fun k => g = some k) w w'
theorem sortU_any (xs : List Nat) (ao : Option Addr) (cap : Nat) (g : Option Nat) (w : World) (hl : xs.length ≤ 1000) (hO : Own w ao cap g 23 1 xs.length (u32s xs)) :
    Calls Try.prog 24 #[.slice ao xs.length cap] w (SortedU xs ao g w) := by
  by_cases h0 : xs.length = 0
  · obtain rfl := List.eq_nil_of_length_eq_zero h0
    exact (sort32_nil ao cap w).mono fun e w' ⟨h1, h2⟩ => ⟨h1, [], .nil, .nil, fun i h => by simp at h, by rw [h2]; exact Only.refl _ _⟩
  · rcases hO.addr with ⟨_, _, h, _⟩ | ⟨b, rfl, rfl, hb⟩
    · exact absurd h h0
    have h := sort32_any b 0 cap xs.toArray w (own_holds hO) hb (by simp; omega)
    rw [List.size_toArray] at h
    refine h.mono ?_
    rintro e w' ⟨rfl, d', hp, hs, hH, ho⟩
    have hdz : d'.size = xs.length := by rw [hp.1]; simp
    refine ⟨rfl, d'.toList, ?_, ?_, fun i hi => ?_, ?_⟩
    · have h1 := hp.2.2
      have e1 : (d'.extract 0 xs.length).toList = d'.toList := by rw [Array.toList_extract]; simp [List.extract, ← hdz]; exact List.take_of_length_le (by simp)
      have e2 : (xs.toArray.extract 0 xs.length).toList = xs := by rw [Array.toList_extract]; simp [List.extract]
      rw [e1, e2] at h1
      exact h1
    · rw [List.pairwise_iff_getElem]
      intro i j hi hj hij
      have hi' : i < d'.size := by simpa using hi
      have hj' : j < d'.size := by simpa using hj
      have := hs i j (Nat.zero_le _) hij (by omega)
      rw [getElem!_pos d' j hj', getElem!_pos d' i hi'] at this
      simpa using this
    · have hi' : i < d'.size := by simpa using hi
      refine ⟨b, rfl, Nat.lt_of_lt_of_le hb ho.size, rfl, ?_⟩
      have := (hH i hi').1
      rw [Nat.zero_add, getElem!_pos d' i hi'] at this
      simpa [e32] using this
    · exact ⟨ho.os, ho.tape, ho.output, ho.size, fun k hk hn => ho.same k hk (fun e => hn (by rw [e]))⟩
theorem nodup_rise {S : List Nat} (h : S.Pairwise (· ≤ ·)) (hn : S.Nodup) : S.Pairwise (· < ·) := by
  have := h.and hn
  exact this.imp fun ⟨h1, h2⟩ => Nat.lt_of_le_of_ne h1 h2
theorem length_le_of : ∀ {S T : List Nat}, S.Nodup → (∀ s ∈ S, s ∈ T) → S.length ≤ T.length
  | [], _, _, _ => Nat.zero_le _
  | s :: S, T, hn, h => by
    obtain ⟨h1, h2⟩ := List.nodup_cons.1 hn
    have ih := length_le_of h2 (T := T.erase s) (fun x hx => (List.mem_erase_of_ne (show x ≠ s from fun e => h1 (by rw [← e]; exact hx))).2 (h x (by simp [hx])))
    have hs := h s (by simp)
    rw [List.length_erase_of_mem hs] at ih
    have : 0 < T.length := List.length_pos_of_mem hs
    rw [List.length_cons]; omega
theorem srcsOf_len (L : List VisD) : (srcsOf L).length ≤ L.length := by
  have := length_le_of (srcsOf_all L).1 (T := L.map (·.1)) (fun s hs => by
    obtain ⟨x, hx, e⟩ := ((srcsOf_all L).2 s).1 hs
    exact List.mem_map.2 ⟨x, hx, e⟩)
  simpa using this
end Go.Proofs.Ytggcmnjllkncaaa
