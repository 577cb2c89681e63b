/- Counting a table's ticks; At and Slots with the row kept. -/
import Derived.Test.YthmehknjdkbemaaDoorS13
import Derived.Test.YthmehknjdkbemaaDoorS17
namespace Go.Proofs
open Go.RowKit Go.Tr

def cnt (p : Nat → Bool) : Nat → Nat
  | 0 => 0
  | k + 1 => cnt p k + (if p k then 1 else 0)
theorem cnt_not (p : Nat → Bool) (k : Nat) : cnt p k + cnt (fun j => !p j) k = k := by
  induction k with
  | zero => rfl
  | succ k ih => simp only [cnt]; by_cases hp : p k = true <;> simp [hp] <;> omega
theorem cnt_or (p q : Nat → Bool) (k : Nat) (h : ∀ j, j < k → ¬(p j = true ∧ q j = true)) : cnt (fun j => p j || q j) k = cnt p k + cnt q k := by
  induction k with
  | zero => rfl
  | succ k ih =>
    have := ih fun j hj => h j (by omega)
    have h0 := h k (by omega)
    simp only [cnt, this]
    by_cases hp : p k = true <;> by_cases hq : q k = true <;> simp [hp, hq] at h0 ⊢ <;> omega
theorem cnt_win (x : Win) (k : Nat) : cnt (inW x) k = min (k - x.2.1) x.2.2 := by
  induction k with
  | zero => simp [cnt]
  | succ k ih =>
    simp only [cnt, ih, inW]
    by_cases h1 : x.2.1 ≤ k <;> by_cases h2 : k < x.2.1 + x.2.2 <;> simp [h1, h2] <;> omega
def sumL : List Win → Nat
  | [] => 0
  | x :: l => x.2.2 + sumL l
theorem sumL_append (a b : List Win) : sumL (a ++ b) = sumL a + sumL b := by
  induction a with
  | nil => simp [sumL]
  | cons x a ih => simp only [List.cons_append, sumL, ih]; omega
theorem sumL_taken {N : Nat} {L : List Win} (h : OkW N L) : cnt (taken L) N = sumL L := by
  induction L with
  | nil =>
    have : ∀ k, cnt (taken []) k = 0 := by
      intro k
      induction k with
      | zero => rfl
      | succ k ih => simp [cnt, ih, taken]
    rw [this]; rfl
  | cons x L ih =>
    have hL : OkW N L := ⟨fun y hy => h.1 y (by simp [hy]), (List.pairwise_cons.1 h.2).2⟩
    have hx := h.1 x (by simp)
    have hd := (List.pairwise_cons.1 h.2).1
    have e : taken (x :: L) = fun j => inW x j || taken L j := by funext j; rfl
    rw [e, cnt_or, ih hL, cnt_win]
    · simp only [sumL]; omega
    · rintro j - ⟨h1, h2⟩
      unfold taken at h2
      rw [List.any_eq_true] at h2
      obtain ⟨y, hy, h2⟩ := h2
      have := hd y hy
      simp only [inW, Bool.and_eq_true, decide_eq_true_eq] at h1 h2
      omega
theorem sum_free {N : Nat} {L : List Win} (h : OkW N L) : sumL L + cnt (fun j => !taken L j) N = N := by
  rw [← sumL_taken h]; exact cnt_not _ _
theorem sumL_take {L : List Win} {k : Nat} {x : Win} (h : L[k]? = some x) : sumL (L.take (k + 1)) = sumL (L.take k) + x.2.2 := by
  rw [take_at h, sumL_append]; simp [sumL]
theorem sumL_le {N : Nat} {L : List Win} (h : OkW N L) (k : Nat) : sumL (L.take k) ≤ N := by
  have := sum_free (h.sub (List.take_sublist k L))
  omega
theorem free_of_at {L : List Win} {k : Nat} : (0 ≤ atL L k) = (taken L k = true) := propext (atL_taken k)
theorem atL_out {N : Nat} {L : List Win} (h : OkW N L) {t : Int} (ht : t < 0 ∨ (N : Int) ≤ t) : atL L t = -1 := by
  unfold atL
  have : L.find? (fun y => inT y t) = none := by
    rw [List.find?_eq_none]
    intro x hx
    have := h.1 x hx
    simp only [inT, Bool.and_eq_true, decide_eq_true_eq]
    omega
  rw [this]
theorem pair_at {L : List Win} {R : Win → Win → Prop} (h : L.Pairwise R) {i j : Nat} {x y : Win} (hi : L[i]? = some x) (hj : L[j]? = some y) (hij : i < j) : R x y := by
  rw [List.pairwise_iff_getElem] at h
  obtain ⟨h1, e1⟩ := List.getElem?_eq_some_iff.1 hi
  obtain ⟨h2, e2⟩ := List.getElem?_eq_some_iff.1 hj
  have := h i j h1 h2 hij
  rwa [e1, e2] at this

theorem St.drewN {w0 w : World} {b N : Nat} {L : List Win} (h : St w0 w b N L) (q : Nat) : St w0 (w.drewN q) b N L := ⟨h.tab, ⟨h.below.os, h.below.tape, h.below.output, h.below.size, h.below.block⟩, h.ok, h.n, h.tbl⟩

theorem Tryd.At_row {w0 w : World} {b N : Nat} {L : List Win} (h : St w0 w b N L) (t : Int) :
    Calls Tryd.prog 11 #[.pointer (some ⟨b, 0, none⟩), .int .i64 t] w fun e w' => e = .returned (.int .i64 (atL L t)) ∧ St w0 w' b N L ∧ Below w.heap.size w w' := by
  have hN := h.n
  refine (Tryd.At_in _ b N L t w h.tab (by have := h.ok.length; omega) (fun j x hx => by have := (h.ok.1 x (List.mem_of_getElem? hx)).2.2; omega)).mono ?_
  rintro e w' ⟨rfl, hB⟩
  exact ⟨rfl, ⟨h.tab.below hB, h.below.trans (hB.mono h.below.size), h.ok, h.n, h.tbl⟩, hB⟩
theorem Tryd.Slots_st {w0 w : World} {b N : Nat} {L : List Win} (h : St w0 w b N L) :
    Calls Tryd.prog 14 #[.pointer (some ⟨b, 0, none⟩)] w fun e w' => ∃ A c, e = .returned (.slice A L.length c) ∧ SlotRow w' A L ∧ St w0 w' b N L ∧ Below w.heap.size w w' := by
  have hN := h.n
  refine (Tryd.Slots_in _ b N L w h.tab (by have := h.ok.length; omega)).mono ?_
  rintro e w' ⟨A, c, rfl, ho, hB⟩
  exact ⟨A, c, rfl, SlotRow.of_own ho, ⟨h.tab.below hB, h.below.trans (hB.mono h.below.size), h.ok, h.n, h.tbl⟩, hB⟩
end Go.Proofs
