/- What the windows' row holds; the contracts of slots.At and slots.Slots. -/
import Derived.Test.YthmehknjdkbemaaDoorS2
namespace Go.Proofs
open Go.RowKit Go.Tr

theorem rowW_length (L : List Win) : (rowW L).length = L.length * 3 := by
  induction L with
  | nil => rfl
  | cons x L ih => simp [rowW, encW] at ih ⊢; omega
theorem rowW_at (L : List Win) (k : Nat) (x : Win) (h : L[k]? = some x) :
    (rowW L)[k * 3]? = some (.int .i64 x.1) ∧ (rowW L)[k * 3 + 1]? = some (.int .i64 x.2.1) ∧ (rowW L)[k * 3 + 2]? = some (.int .i64 x.2.2) := by
  induction L generalizing k with
  | nil => simp at h
  | cons y L ih =>
    cases k with
    | zero =>
      simp at h
      subst h
      simp [rowW, encW]
    | succ k =>
      have := ih k (by simpa using h)
      simp only [rowW, List.flatMap_cons] at this ⊢
      have e : (k + 1) * 3 = (encW y).length + k * 3 := by simp [encW]; omega
      rw [e, List.getElem?_append_right (by omega), Nat.add_assoc, Nat.add_assoc, List.getElem?_append_right (by omega), List.getElem?_append_right (by omega)]
      simp only [Nat.add_sub_cancel_left]
      exact this

/-- the block of the row, where there is a window -/
theorem WinsAt.at {w : World} {F : Nat → Prop} {A : Option Addr} {c : Nat} {L : List Win} (h : WinsAt w F A c L) (hn : 0 < L.length) :
    ∃ g, A = some ⟨g, 0, none⟩ ∧ g < w.heap.size ∧ F g ∧ ∀ (k : Nat) (x : Win), L[k]? = some x → w.cell? ⟨g, k * 3, none⟩ = some (.int .i64 x.1) ∧ w.cell? ⟨g, k * 3 + 1, none⟩ = some (.int .i64 x.2.1) ∧ w.cell? ⟨g, k * 3 + 2, none⟩ = some (.int .i64 x.2.2) := by
  obtain ⟨ho, hF⟩ := h
  obtain ⟨g, cap, hv, hlt⟩ : ∃ g cap, Value.slice A L.length c = .slice (some ⟨g, 0, none⟩) L.length cap ∧ g < w.heap.size := by
    rcases ho.2 with ⟨_, h0⟩ | ⟨g, cap, cur, hv, _, hg, _⟩
    · omega
    · exact ⟨g, cap, hv, (Array.getElem?_eq_some_iff.1 hg).1⟩
  injection hv with hA
  subst hA
  refine ⟨g, rfl, hlt, hF _ rfl, fun k x hx => ?_⟩
  obtain ⟨h0, h1, h2⟩ := rowW_at L k x hx
  have hc := ho.cells (g := g) rfl
  have ha : ∀ n, (⟨g, 0, none⟩ : Addr).add n = ⟨g, n, none⟩ := fun n => by unfold Addr.add; split <;> simp_all
  simp only [ha] at hc
  exact ⟨hc _ _ h0, hc _ _ h1, hc _ _ h2⟩

def inT (x : Win) (t : Int) : Bool := decide ((x.2.1 : Int) ≤ t) && decide (t < (x.2.1 : Int) + x.2.2)
def atL (L : List Win) (t : Int) : Int := match L.find? (fun x => inT x t) with
  | some x => x.1
  | none => -1
theorem atL_some {L : List Win} {t : Int} {k : Nat} {x : Win} (hx : L[k]? = some x) (ht : inT x t = true) (hno : ∀ (j : Nat) (y : Win), j < k → L[j]? = some y → inT y t = false) : atL L t = x.1 := by
  have : L.find? (fun x => inT x t) = some x := by
    rw [List.find?_eq_some_iff_getElem]
    obtain ⟨hk, hxk⟩ := List.getElem?_eq_some_iff.1 hx
    refine ⟨ht, k, hk, hxk, fun j hj => ?_⟩
    have := hno j L[j] hj (List.getElem?_eq_getElem (by omega))
    simp [this]
  unfold atL
  rw [this]
theorem atL_none {L : List Win} {t : Int} (hno : ∀ (j : Nat) (y : Win), L[j]? = some y → inT y t = false) : atL L t = -1 := by
  have : L.find? (fun x => inT x t) = none := by
    rw [List.find?_eq_none]
    intro y hy
    obtain ⟨j, hj, rfl⟩ := List.getElem_of_mem hy
    have := hno j L[j] (List.getElem?_eq_getElem hj)
    simp [this]
  unfold atL
  rw [this]

theorem next_no {L : List Win} {t : Int} {k : Nat} {x : Win} (hno : ∀ (j : Nat) (y : Win), j < k → L[j]? = some y → inT y t = false) (hx : L[k]? = some x) (h : inT x t = false) :
    ∀ (j : Nat) (y : Win), j < k + 1 → L[j]? = some y → inT y t = false := by
  intro j y hj hy
  by_cases e : j = k
  · subst e
    rw [hx] at hy
    injection hy with hy
    subst hy
    exact h
  · exact hno j y (by omega) hy

set_option maxHeartbeats 400000 in
theorem Tryd.At_in (F : Nat → Prop) (b N : Nat) (L : List Win) (t : Int) (w : World) (ht : Tab w F b N L) (hn : L.length ≤ 256) (hin : ∀ (j : Nat) (x : Win), L[j]? = some x → x.2.1 + x.2.2 ≤ 256) :
    Calls Tryd.prog 11 #[.pointer (some ⟨b, 0, none⟩), .int .i64 t] w fun e w' => e = .returned (.int .i64 (atL L t)) ∧ Below w.heap.size w w' := by
  obtain ⟨A, c, hT, hW, hb⟩ := ht
  have hsl : w.cell? ⟨b, 5, none⟩ = some (.slice A L.length c) := Blk.cell hT 5
  have Hin := hide hin
  clear hin
  go_enter Tryd.func11, Tryd.ntmps11
  go_wp2
  go_loopw [4, 6, 12] (fun _ _ i wr => ∃ k : Nat, k ≤ L.length ∧ i = .int .i64 k ∧ Below w.heap.size w wr ∧ ∀ (j : Nat) (y : Win), j < k → L[j]? = some y → inT y t = false) (fun _ _ i _ => L.length - (intOf i).toNat)
  case atStart => exact ⟨0, Nat.zero_le _, rfl, Below.refl _ _, fun j y hj => absurd hj (Nat.not_lt_zero _)⟩
  case round =>
    obtain ⟨k, hk, rfl, hB, hno⟩ := hrel
    by_cases hlt : k < L.length
    · obtain ⟨g, rfl, hg, _, hcs⟩ := hW.at (by omega)
      obtain ⟨x, hx⟩ : ∃ x, L[k]? = some x := ⟨L[k], List.getElem?_eq_getElem hlt⟩
      obtain ⟨c0, c1, c2⟩ := hcs k x hx
      have hxin := Hin.out k x hx
      have d0 := (hB.cell (p := ⟨g, k * 3, none⟩) hg).trans c0
      have d1 := (hB.cell (p := ⟨g, k * 3 + 1, none⟩) hg).trans c1
      have d2 := (hB.cell (p := ⟨g, k * 3 + 2, none⟩) hg).trans c2
      have Hno := hide hno
      have Hx := hide hx
      clear hno hx hcs c0 c1 c2
      go_wp2
      · have h1 : (x.2.1 : Int) ≤ t := by assumption
        have h2 : t < (x.2.1 : Int) + x.2.2 := by assumption
        go_ret
        exact ⟨ret_int (atL_some Hx.out (by simp [inT, h1, h2]) Hno.out).symm, hB.alloc hB.size _⟩
      · have h2 : (x.2.1 : Int) + x.2.2 ≤ t := by assumption
        go_roundw
        case rel => exact ⟨k + 1, by omega, by go_num, hB.alloc hB.size _, next_no Hno.out Hx.out (by unfold inT; rw [show decide (t < (x.2.1 : Int) + x.2.2) = false by simp; omega, Bool.and_false])⟩
        case measure => simp [intOf]; omega
      · have h2 : ¬ (x.2.1 : Int) ≤ t := by assumption
        go_roundw
        case rel => exact ⟨k + 1, by omega, by go_num, hB.alloc hB.size _, next_no Hno.out Hx.out (by unfold inT; rw [decide_eq_false h2, Bool.false_and])⟩
        case measure => simp [intOf]; omega
    · obtain rfl : k = L.length := by omega
      have Hno := hide hno
      clear hno
      go_wp2
      go_ret
      exact ⟨ret_int (atL_none fun j y hj => Hno.out j y (List.getElem?_eq_some_iff.1 hj).1 hj).symm, hB⟩
end Go.Proofs
