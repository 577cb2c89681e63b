/- The contract of the reference's Same. -/
import Derived.Test.YthmehknjdkbemaaDoorS16
namespace Go.Proofs
open Go.RowKit Go.Tr

theorem lists_ne {L M : List Win} (h : L.length = M.length) (hne : L ≠ M) : ∃ (k : Nat) (x y : Win), L[k]? = some x ∧ M[k]? = some y ∧ x ≠ y ∧ k < L.length := by
  apply Classical.byContradiction
  intro hc
  refine hne (List.ext_getElem h fun k h1 h2 => ?_)
  apply Classical.byContradiction
  intro he
  exact hc ⟨k, L[k], M[k], List.getElem?_eq_getElem h1, List.getElem?_eq_getElem h2, he, h1⟩
theorem win_eq_iff (x y : Win) : (((x.1 : Int) == y.1 && (x.2.1 : Int) == y.2.1 && (x.2.2 : Int) == y.2.2) = true) ↔ x = y := by
  obtain ⟨a, b, c⟩ := x
  obtain ⟨d, e, f⟩ := y
  simp only [Bool.and_eq_true, beq_iff_eq, Prod.mk.injEq]
  omega

theorem takes_eq {L M : List Win} {k : Nat} (h : ∀ (j : Nat), j < k → L[j]? = M[j]?) (h1 : k = L.length) (h2 : L.length = M.length) : L = M := by
  apply List.ext_getElem?
  intro j
  by_cases hj : j < k
  · exact h j hj
  · rw [List.getElem?_eq_none (by omega), List.getElem?_eq_none (by omega)]

set_option maxHeartbeats 1000000 in
theorem Tryd.Same_any (A A2 : Option Addr) (c c2 : Nat) (L M : List Win) (w : World) (h1 : SlotRow w A L) (h2 : SlotRow w A2 M) (hn : L.length ≤ 1000000) (hn2 : M.length ≤ 1000000) :
    Calls Tryd.prog 16 #[.slice A L.length c, .slice A2 M.length c2] w fun e w' => e = .returned (.bool (decide (L = M))) ∧ ∃ q, w' = w.drewN q := by
  by_cases hl : L.length = M.length
  · have H1 := hide h1
    have H2 := hide h2
    have Hl := hide hl
    have hnq := Tryd.neqS
    have hgd : Tryd.prog.eqGuardType Tryd.prog.depth 38 = false := by kernel_rfl
    rw [← hl]
    clear h1 h2 hl
    go_enter Tryd.func16, Tryd.ntmps16
    go_wp2
    go_loopw [4, 5] (fun _ i wr => ∃ (k q : Nat), k ≤ L.length ∧ i = .int .i64 k ∧ wr = w.drewN q ∧ ∀ (j : Nat), j < k → L[j]? = M[j]?) (fun _ i _ => L.length - (intOf i).toNat)
    case atStart => exact ⟨0, 0, Nat.zero_le _, rfl, rfl, fun j h => absurd h (Nat.not_lt_zero _)⟩
    case round =>
      obtain ⟨k, q, hk, rfl, rfl, hall⟩ := hrel
      have Hall := hide hall
      clear hall
      by_cases hlt : k < L.length
      · obtain ⟨g, rfl, hg, hcs⟩ := H1.out (by omega)
        obtain ⟨g2, rfl, hg2, hcs2⟩ := H2.out (by have := Hl.out; omega)
        obtain ⟨x, hx⟩ : ∃ x, L[k]? = some x := ⟨L[k], List.getElem?_eq_getElem hlt⟩
        obtain ⟨y, hy⟩ : ∃ y, M[k]? = some y := ⟨M[k]'(by have := Hl.out; omega), List.getElem?_eq_getElem (by have := Hl.out; omega)⟩
        obtain ⟨c0, c1, c2⟩ := hcs k x hx
        obtain ⟨e0, e1, e2⟩ := hcs2 k y hy
        have Hx := hide hx
        have Hy := hide hy
        clear hcs hcs2 hx hy
        cases hxy : ((x.1 : Int) == y.1 && (x.2.1 : Int) == y.2.1 && (x.2.2 : Int) == y.2.2) with
        | true =>
          have hee := hide ((win_eq_iff x y).1 hxy)
          have hnq' : ∀ W, (binOp .neq 38 (.agg #[.int .i64 x.1, .int .i64 x.2.1, .int .i64 x.2.2]) (.agg #[.int .i64 y.1, .int .i64 y.2.1, .int .i64 y.2.2])).run Tryd.prog W = .ok (.bool false) W := fun W => by rw [hnq, hxy]; rfl
          clear hxy hnq
          go_wp2
          go_quiet (fail)
          go_wp2
          go_roundw
          case rel =>
            refine ⟨k + 1, _, hlt, by go_num, rfl, fun j hj => ?_⟩
            by_cases e : j = k
            · subst e; rw [Hx.out, Hy.out, hee.out]
            · exact Hall.out j (by omega)
          case measure => simp [intOf]; omega
        | false =>
          have hne : L ≠ M := by
            rintro rfl
            have := Hx.out.symm.trans Hy.out
            injection this with this
            subst this
            have := (win_eq_iff x x).2 rfl
            rw [hxy] at this
            cases this
          have Hne := hide hne
          have hnq' : ∀ W, (binOp .neq 38 (.agg #[.int .i64 x.1, .int .i64 x.2.1, .int .i64 x.2.2]) (.agg #[.int .i64 y.1, .int .i64 y.2.1, .int .i64 y.2.2])).run Tryd.prog W = .ok (.bool true) W := fun W => by rw [hnq, hxy]; rfl
          clear hxy hnq hne
          go_wp2
          go_quiet (fail)
          go_wp2
          go_ret
          exact ⟨ret_bool (decide_eq_false Hne.out).symm, _, World.drewN_drewN _ _ _⟩
      · obtain rfl : k = L.length := by omega
        go_wp2
        go_ret
        exact ⟨ret_bool (decide_eq_true (takes_eq Hall.out rfl Hl.out)).symm, _, rfl⟩
  · have hne : L ≠ M := fun h => hl (by rw [h])
    have hlb : (((L.length : Nat) : Int) != (M.length : Int)) = true := by simpa using (fun h => hl (by omega))
    have Hne := hide hne
    clear hne hl h1 h2
    go_enter Tryd.func16, Tryd.ntmps16
    go_wp2
    go_ret
    exact ⟨ret_bool (decide_eq_false Hne.out).symm, 0, rfl⟩
end Go.Proofs
