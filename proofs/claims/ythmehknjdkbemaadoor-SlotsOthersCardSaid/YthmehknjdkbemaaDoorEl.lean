/- Plain facts: the elements of a set below a bound, the lowest bit of a word, gaps. -/
import Derived.Test.YthmehknjdkbemaaDoorBase
import Derived.Lib.TrailingZeros
namespace Go.Tr

def elemsBelow (S : Nat → Bool) (n : Nat) : List Nat := (List.range n).filter S
theorem elemsBelow_succ (S : Nat → Bool) (n : Nat) : elemsBelow S (n + 1) = if S n then elemsBelow S n ++ [n] else elemsBelow S n := by
  unfold elemsBelow
  rw [List.range_succ, List.filter_append]
  cases h : S n <;> simp [h]
theorem elemsBelow_skip (S : Nat → Bool) (n d : Nat) (h : ∀ j, n ≤ j → j < n + d → S j = false) : elemsBelow S (n + d) = elemsBelow S n := by
  induction d with
  | zero => rfl
  | succ d ih =>
    rw [show n + (d + 1) = (n + d) + 1 by omega, elemsBelow_succ, h (n + d) (by omega) (by omega), if_neg (by simp), ih (fun j h1 h2 => h j h1 (by omega))]
theorem elemsBelow_le (S : Nat → Bool) {n m : Nat} (h : n ≤ m) : elemsBelow S n <+: elemsBelow S m := by
  induction m with
  | zero => obtain rfl : n = 0 := by omega
            exact List.prefix_refl _
  | succ m ih =>
    by_cases e : n = m + 1
    · subst e; exact List.prefix_refl _
    · have h1 := ih (by omega)
      rw [elemsBelow_succ]
      split
      · exact h1.trans (List.prefix_append _ _)
      · exact h1
theorem elemsBelow_length (S : Nat → Bool) (n : Nat) : (elemsBelow S n).length ≤ n := by
  unfold elemsBelow
  exact Nat.le_trans (List.length_filter_le _ _) (by simp)
theorem mem_elemsBelow {S : Nat → Bool} {n k : Nat} : k ∈ elemsBelow S n ↔ k < n ∧ S k = true := by simp [elemsBelow]

/-- a word's bits from p on -/
def low (g : Nat → Bool) (p : Nat) : Nat := word (fun j => decide (p ≤ j) && g j) 64
theorem low_lt (g : Nat → Bool) (p : Nat) : low g p < 18446744073709551616 := by
  have := word_lt (fun j => decide (p ≤ j) && g j) 64
  unfold low
  simpa using this
theorem low_bit (g : Nat → Bool) (p j : Nat) : (low g p).testBit j = (decide (j < 64) && (decide (p ≤ j) && g j)) := by
  unfold low
  rw [word_testBit]
theorem low_start (g : Nat → Bool) : low g 0 = word g 64 := word_congr fun j _ => by simp
theorem low_zero {g : Nat → Bool} {p : Nat} (h : low g p = 0) (j : Nat) (h1 : p ≤ j) (h2 : j < 64) : g j = false := by
  have hb := low_bit g p j
  rw [h] at hb
  simpa [h1, h2] using hb

theorem bits_of_odd (k m j : Nat) : (2 ^ k * (2 * m + 1)).testBit j = (decide (j = k) || (decide (k < j) && m.testBit (j - (k + 1)))) := by
  have e : 2 ^ k * (2 * m + 1) = 2 ^ (k + 1) * m + 2 ^ k := by rw [Nat.pow_succ, Nat.mul_add, Nat.mul_assoc, Nat.mul_one]
  have hl : 2 ^ k < 2 ^ (k + 1) := Nat.pow_lt_pow_right (by omega) (by omega)
  rw [e, Nat.testBit_two_pow_mul_add m hl]
  by_cases h : j < k + 1
  · rw [if_pos h, Nat.testBit_two_pow, show decide (k < j) = false by simp; omega]
    simp [eq_comm]
  · rw [if_neg h, show decide (j = k) = false by simp; omega, show decide (k < j) = true by simp; omega]
    simp
theorem and_pred (k m : Nat) : (2 ^ k * (2 * m + 1)) &&& (2 ^ k * (2 * m + 1) - 1) = 2 ^ (k + 1) * m := by
  have hp : 0 < 2 ^ k := Nat.two_pow_pos k
  have e : 2 ^ k * (2 * m + 1) - 1 = 2 ^ (k + 1) * m + (2 ^ k - 1) := by
    rw [show 2 ^ k * (2 * m + 1) = 2 ^ (k + 1) * m + 2 ^ k by rw [Nat.pow_succ, Nat.mul_add, Nat.mul_assoc, Nat.mul_one]]
    omega
  have hl : 2 ^ k - 1 < 2 ^ (k + 1) := by rw [Nat.pow_succ]; omega
  apply Nat.eq_of_testBit_eq
  intro j
  rw [Nat.testBit_and, bits_of_odd, e, Nat.testBit_two_pow_mul_add m hl, Nat.testBit_two_pow_mul]
  by_cases h : j < k + 1
  · rw [if_pos h, Nat.testBit_two_pow_sub_one, show decide (k < j) = false by simp; omega, show decide (j ≥ k + 1) = false by simp; omega]
    by_cases hj : j = k
    · subst hj; simp
    · simp [hj]
  · rw [if_neg h, show decide (j = k) = false by simp; omega, show decide (k < j) = true by simp; omega, show decide (j ≥ k + 1) = true by simp; omega]
    simp

theorem low_next {g : Nat → Bool} {p : Nat} (h : low g p ≠ 0) :
    p ≤ Lib.ctz 64 (low g p) ∧ Lib.ctz 64 (low g p) < 64 ∧ g (Lib.ctz 64 (low g p)) = true ∧ (∀ j, p ≤ j → j < Lib.ctz 64 (low g p) → g j = false) ∧
      low g p &&& (low g p - 1) = low g (Lib.ctz 64 (low g p) + 1) := by
  have hl := low_lt g p
  obtain ⟨m, hm, hk⟩ := Lib.ctzFrom_spec 64 (low g p) (by omega) (by simpa using hl)
  have e : Lib.ctz 64 (low g p) = Lib.ctzFrom 64 (low g p) := by simp [Lib.ctz, h]
  rw [e]
  generalize Lib.ctzFrom 64 (low g p) = k at *
  have hb : ∀ j, (low g p).testBit j = (decide (j = k) || (decide (k < j) && m.testBit (j - (k + 1)))) := fun j => by
    rw [← bits_of_odd, ← hm]
  have h1 := hb k
  rw [low_bit] at h1
  simp [hk] at h1
  refine ⟨h1.1, hk, h1.2, fun j hj1 hj2 => ?_, ?_⟩
  · have := hb j
    rw [low_bit] at this
    simpa [hj1, show j < 64 by omega, show j ≠ k by omega, show ¬ k < j by omega] using this
  · rw [show low g p &&& (low g p - 1) = 2 ^ (k + 1) * m by rw [hm]; exact and_pred k m]
    apply Nat.eq_of_testBit_eq
    intro j
    have hj := hb j
    rw [low_bit] at hj
    rw [low_bit, Nat.testBit_two_pow_mul]
    by_cases hkj : k + 1 ≤ j
    · have : j ≠ k := by omega
      simp only [this, decide_false, Bool.false_or, show k < j by omega, decide_true, Bool.true_and] at hj
      simp only [ge_iff_le, hkj, decide_true, Bool.true_and]
      rw [← hj]
      simp [show p ≤ j by omega]
    · simp [hkj]
end Go.Tr

namespace Go.Tr
/-- what the search for a gap has as its beginning, after these numbers; none: it has stopped -/
def gapRun (m e : Nat) (l : List Nat) : Option Nat := l.foldl (fun o x => o.bind fun f => if e ≤ x ∨ f + m ≤ x then none else some (x + 1)) (some 0)
theorem gapRun_snoc (m e : Nat) (l : List Nat) (x : Nat) : gapRun m e (l ++ [x]) = (gapRun m e l).bind fun f => if e ≤ x ∨ f + m ≤ x then none else some (x + 1) := by
  simp [gapRun]
theorem gapRun_inv (S : Nat → Bool) (m e : Nat) (hm : 1 ≤ m) : ∀ n f, gapRun m e (elemsBelow S n) = some f →
    f ≤ n ∧ f ≤ e ∧ (∀ f', f' < f → ∃ j, f' ≤ j ∧ j < f' + m ∧ S j = true) ∧ ∀ j, f ≤ j → j < n → S j = false := by
  intro n
  induction n with
  | zero =>
    intro f h
    obtain rfl : 0 = f := by simpa [gapRun, elemsBelow] using h
    exact ⟨by omega, by omega, fun f' h => by omega, fun j _ h => by omega⟩
  | succ n ih =>
    intro f h
    rw [elemsBelow_succ] at h
    cases hS : S n with
    | true =>
      rw [hS, if_pos rfl, gapRun_snoc] at h
      obtain ⟨f0, h0, h1⟩ := Option.bind_eq_some_iff.1 h
      obtain ⟨i1, i2, i3, i4⟩ := ih f0 h0
      split at h1
      · cases h1
      · rename_i hne
        obtain rfl : n + 1 = f := by simpa using h1
        refine ⟨by omega, by omega, fun f' hf' => ?_, fun j h1 h2 => by omega⟩
        by_cases hf : f' < f0
        · exact i3 f' hf
        · exact ⟨n, by omega, by omega, hS⟩
    | false =>
      rw [hS, if_neg (by simp)] at h
      obtain ⟨i1, i2, i3, i4⟩ := ih f h
      refine ⟨by omega, i2, i3, fun j h1 h2 => ?_⟩
      by_cases e : j = n
      · subst e; exact hS
      · exact i4 j h1 (by omega)
theorem elems_prefix (S : Nat → Bool) : ∀ N ini x, (ini ++ [x]) <+: elemsBelow S N → ini = elemsBelow S x ∧ x < N ∧ S x = true := by
  intro N
  induction N with
  | zero => intro ini x h; have := List.IsPrefix.length_le h; simp [elemsBelow] at this
  | succ N ih =>
    intro ini x h
    rw [elemsBelow_succ] at h
    split at h
    · rename_i hS
      rw [List.prefix_concat_iff] at h
      rcases h with h | h
      · obtain ⟨h1, h2⟩ := List.append_inj' h rfl
        obtain rfl : x = N := by simpa using h2
        exact ⟨h1, by omega, hS⟩
      · obtain ⟨h1, h2, h3⟩ := ih ini x h
        exact ⟨h1, by omega, h3⟩
    · obtain ⟨h1, h2, h3⟩ := ih ini x h
      exact ⟨h1, by omega, h3⟩

/-- the first gap of m numbers below e, or that there is none -/
def GapSpec (S : Nat → Bool) (m e : Nat) (r : Int) : Prop :=
  (r = -1 ∧ ∀ f, f + m ≤ e → ∃ j, f ≤ j ∧ j < f + m ∧ S j = true) ∨
  (∃ f : Nat, r = f ∧ f + m ≤ e ∧ (∀ j, f ≤ j → j < f + m → S j = false) ∧ ∀ f', f' < f → ∃ j, f' ≤ j ∧ j < f' + m ∧ S j = true)

theorem gap_of (S : Nat → Bool) (m e : Nat) (hm : 1 ≤ m) (n f : Nat) (h : gapRun m e (elemsBelow S n) = some f) (hn : e ≤ n ∨ f + m ≤ n) :
    GapSpec S m e (if (e : Int) - f < m then -1 else f) := by
  obtain ⟨i1, i2, i3, i4⟩ := gapRun_inv S m e hm n f h
  by_cases hlt : (e : Int) - f < m
  · rw [if_pos hlt]
    exact .inl ⟨rfl, fun f' hf' => i3 f' (by omega)⟩
  · rw [if_neg hlt]
    exact .inr ⟨f, rfl, by omega, fun j h1 h2 => i4 j h1 (by omega), i3⟩
end Go.Tr
