/- Place and Insert as functions of the windows, for every argument. -/
import Derived.Test.YthmehknjdkbemaaDoorS10
namespace Go.Proofs
open Go.RowKit Go.Tr

def placeC (N : Nat) (L : List Win) (p f m : Int) : Int :=
  if p < 0 ∨ 8 ≤ p ∨ m < 1 ∨ (N : Int) < m ∨ f < 0 ∨ (N : Int) - m < f then 1
  else if (List.range m.toNat).any (fun i => taken L (f.toNat + i)) = true then 8 else 0
def placeL (N : Nat) (L : List Win) (p f m : Int) : List Win := if placeC N L p f m = 0 then insW L (p.toNat, f.toNat, m.toNat) else L
def gapAt (N : Nat) (L : List Win) (m : Nat) : Option Nat := (List.range N).find? fun f => decide (f + m ≤ N) && (List.range m).all fun i => !taken L (f + i)
def insC (N : Nat) (L : List Win) (p m : Int) : Int × Int :=
  if p < 0 ∨ 8 ≤ p ∨ m < 1 then (0, 1) else match gapAt N L m.toNat with
    | none => (0, 8)
    | some f => (f, 0)
def insL (N : Nat) (L : List Win) (p m : Int) : List Win :=
  if p < 0 ∨ 8 ≤ p ∨ m < 1 then L else match gapAt N L m.toNat with
    | none => L
    | some f => insW L (p.toNat, f, m.toNat)

theorem placeC_free {N : Nat} {L : List Win} {p f m : Int} (h : placeC N L p f m = 0) :
    0 ≤ p ∧ p < 8 ∧ 1 ≤ m ∧ 0 ≤ f ∧ f + m ≤ N ∧ ∀ i, i < m.toNat → taken L (f.toNat + i) = false := by
  unfold placeC at h
  split at h
  · cases h
  · rename_i h1
    split at h
    · cases h
    · rename_i h2
      refine ⟨by omega, by omega, by omega, by omega, by omega, fun i hi => ?_⟩
      rw [Bool.not_eq_true, List.any_eq_false] at h2
      simpa using h2 i (by simpa using hi)
theorem OkW.placeL {N : Nat} {L : List Win} (h : OkW N L) (p f m : Int) : OkW N (placeL N L p f m) := by
  unfold Proofs.placeL
  split
  · rename_i h0
    obtain ⟨h1, h2, h3, h4, h5, h6⟩ := placeC_free h0
    exact h.ins (x := (p.toNat, f.toNat, m.toNat)) (by simp; omega) (by simp; omega) (by simp; omega) h6
  · exact h

theorem gapAt_some {N : Nat} {L : List Win} {m f : Nat} (h : gapAt N L m = some f) : f + m ≤ N ∧ (∀ j, f ≤ j → j < f + m → taken L j = false) := by
  unfold gapAt at h
  have := List.find?_some h
  simp at this
  refine ⟨this.1, fun j h1 h2 => ?_⟩
  have := this.2 (j - f) (by omega)
  rwa [show f + (j - f) = j by omega] at this
theorem gapAt_least {N : Nat} {L : List Win} {m f : Nat} (h : gapAt N L m = some f) : ∀ f', f' < f → ∃ j, f' ≤ j ∧ j < f' + m ∧ taken L j = true := by
  unfold gapAt at h
  rw [List.find?_range_eq_some] at h
  intro f' hf'
  have h1 := h.2.2 f' hf'
  have h0 := h.1
  simp at h1 h0
  obtain ⟨i, hi, ht⟩ := h1.resolve_left (by omega)
  exact ⟨f' + i, by omega, by omega, ht⟩
theorem gapAt_none {N : Nat} {L : List Win} {m : Nat} (hm : 1 ≤ m) (h : gapAt N L m = none) : ∀ f, f + m ≤ N → ∃ j, f ≤ j ∧ j < f + m ∧ taken L j = true := by
  unfold gapAt at h
  rw [List.find?_range_eq_none] at h
  intro f hf
  have := h f (by omega)
  simp at this
  obtain ⟨i, hi, ht⟩ := this.resolve_left (by omega)
  exact ⟨f + i, by omega, by omega, ht⟩
theorem gapAt_eq {N : Nat} {L : List Win} {m f : Nat} (hm : 1 ≤ m) (h1 : f + m ≤ N) (h2 : ∀ j, f ≤ j → j < f + m → taken L j = false) (h3 : ∀ f', f' < f → ∃ j, f' ≤ j ∧ j < f' + m ∧ taken L j = true) : gapAt N L m = some f := by
  cases h : gapAt N L m with
  | none =>
    obtain ⟨j, a, b, c⟩ := gapAt_none hm h f h1
    rw [h2 j a b] at c
    cases c
  | some g =>
    obtain ⟨g1, g2⟩ := gapAt_some h
    rcases Nat.lt_trichotomy f g with hl | rfl | hl
    · obtain ⟨j, a, b, c⟩ := gapAt_least h f hl
      rw [h2 j a b] at c; cases c
    · rfl
    · obtain ⟨j, a, b, c⟩ := h3 g hl
      rw [g2 j a b] at c; cases c
theorem gapAt_no {N : Nat} {L : List Win} {m : Nat} (h : ∀ f, f + m ≤ N → ∃ j, f ≤ j ∧ j < f + m ∧ taken L j = true) : gapAt N L m = none := by
  cases hg : gapAt N L m with
  | none => rfl
  | some g =>
    obtain ⟨g1, g2⟩ := gapAt_some hg
    obtain ⟨j, a, b, c⟩ := h g g1
    rw [g2 j a b] at c; cases c
theorem OkW.insL {N : Nat} {L : List Win} (h : OkW N L) (p m : Int) : OkW N (insL N L p m) := by
  unfold Proofs.insL
  split
  · exact h
  · rename_i h1
    split
    · exact h
    · rename_i f hf
      obtain ⟨g1, g2⟩ := gapAt_some hf
      exact h.ins (x := (p.toNat, f, m.toNat)) (by simp; omega) (by simp; omega) g1 (fun i hi => g2 _ (by simp) (by simp at hi ⊢; omega))

theorem Tab.new {w w' : World} {F : Nat → Prop} {b N : Nat} {L : List Win} (h : Tab w' F b N L) : Tab w' (New F w w') b N L := h.mono fun _ _ h => .inl h

theorem Tryd.Place_any (F : Nat → Prop) (b N : Nat) (L : List Win) (p f m : Int) (w : World) (ht : Tab w F b N L) (hL : OkW N L) (hN : N ≤ 256) :
    Calls Tryd.prog 10 #[.pointer (some ⟨b, 0, none⟩), .int .i64 p, .int .i64 f, .int .i64 m] w fun e w' =>
      e = .returned (.int .i64 (placeC N L p f m)) ∧ Tab w' (New F w w') b N (placeL N L p f m) ∧ Fr F w w' := by
  unfold placeL
  by_cases h : p < 0 ∨ 8 ≤ p ∨ m < 1 ∨ (N : Int) < m ∨ f < 0 ∨ (N : Int) - m < f
  · have e : placeC N L p f m = 1 := by unfold placeC; rw [if_pos h]
    rw [e, if_neg (by decide)]
    refine (Tryd.Place_bad F b N L p f m w ht hN h).mono ?_
    rintro e w' ⟨rfl, rfl⟩
    exact ⟨rfl, ht.new, Fr.refl _ _⟩
  · obtain ⟨p', rfl⟩ := Int.eq_ofNat_of_zero_le (show 0 ≤ p by omega)
    obtain ⟨f', rfl⟩ := Int.eq_ofNat_of_zero_le (show 0 ≤ f by omega)
    obtain ⟨m', rfl⟩ := Int.eq_ofNat_of_zero_le (show 0 ≤ m by omega)
    by_cases h2 : (List.range (m' : Int).toNat).any (fun i => taken L ((f' : Int).toNat + i)) = true
    · have e : placeC N L p' f' m' = 8 := by unfold placeC; rw [if_neg h, if_pos h2]
      rw [e, if_neg (by decide)]
      rw [List.any_eq_true] at h2
      obtain ⟨i, hi, hti⟩ := h2
      refine (Tryd.Place_gap F b N L p' f' m' w ht hN (by omega) (by omega) (by omega) ⟨i, by simpa using hi, by simpa using hti⟩).mono ?_
      rintro e w' ⟨rfl, rfl⟩
      exact ⟨rfl, ht.new, Fr.refl _ _⟩
    · have e : placeC N L p' f' m' = 0 := by unfold placeC; rw [if_neg h, if_neg h2]
      rw [e, if_pos rfl]
      have h6 := (placeC_free e).2.2.2.2.2
      exact Tryd.Place_ok F b N L p' f' m' w ht hL hN (by omega) (by omega) (by omega) (by simpa using h6)

theorem Tryd.Insert_any (F : Nat → Prop) (b N : Nat) (L : List Win) (p m : Int) (w : World) (ht : Tab w F b N L) (hTb : Tbl w) (hL : OkW N L) (hN : N ≤ 256) (hm2 : m ≤ 9223372036854775807) :
    Calls Tryd.prog 12 #[.pointer (some ⟨b, 0, none⟩), .int .i64 p, .int .i64 m] w fun e w' =>
      e = .returned (.tuple #[.int .i64 (insC N L p m).1, .int .i64 (insC N L p m).2]) ∧ Tab w' (New F w w') b N (insL N L p m) ∧ Fr F w w' := by
  unfold insC insL
  by_cases h : p < 0 ∨ 8 ≤ p ∨ m < 1
  · rw [if_pos h, if_pos h]
    refine (Tryd.Insert_bad F b N L p m w h).mono ?_
    rintro e w' ⟨rfl, rfl⟩
    exact ⟨rfl, ht.new, Fr.refl _ _⟩
  · rw [if_neg h, if_neg h]
    obtain ⟨p', rfl⟩ := Int.eq_ofNat_of_zero_le (show 0 ≤ p by omega)
    obtain ⟨m', rfl⟩ := Int.eq_ofNat_of_zero_le (show 0 ≤ m by omega)
    refine (Tryd.Insert_in F b N L p' m' w ht hTb hL hN (by omega) (by omega) (by omega)).mono ?_
    rintro e w' ⟨⟨rfl, hno, hT⟩ | ⟨f, rfl, hf, hfree, hleast, hT⟩, hF⟩
    · rw [show (m' : Int).toNat = m' from rfl, gapAt_no hno]
      exact ⟨rfl, hT.new, hF⟩
    · rw [show (m' : Int).toNat = m' from rfl, gapAt_eq (by omega) hf hfree hleast]
      exact ⟨rfl, hT, hF⟩
end Go.Proofs
