/- The contract of slots.Place. -/
import Derived.Test.YthmehknjdkbemaaDoorS6
import Derived.Deep.AppendLies
import Derived.Deep.RegionLaw
namespace Go.Proofs
open Go.RowKit Go.Tr

theorem Tryd.infoW : (Tryd.prog.info? 58).map (fun i => (i.zero, i.size, i.bytes)) = some (some (.agg #[.int .i64 0, .int .i64 0, .int .i64 0]), 3, 24) := by kernel_rfl

theorem Tryd.Place_bad (F : Nat → Prop) (b N : Nat) (L : List Win) (p f m : Int) (w : World) (ht : Tab w F b N L) (hN : N ≤ 256)
    (h : p < 0 ∨ 8 ≤ p ∨ m < 1 ∨ (N : Int) < m ∨ f < 0 ∨ (N : Int) - m < f) :
    Calls Tryd.prog 10 #[.pointer (some ⟨b, 0, none⟩), .int .i64 p, .int .i64 f, .int .i64 m] w fun e w' => e = .returned (.int .i64 1) ∧ w = w' := by
  obtain ⟨A, c, hT, hW, hb⟩ := ht
  have hc0 : w.cell? ⟨b, 0, none⟩ = some (.int .i64 N) := Blk.cell hT 0
  by_cases hp : p < 0 ∨ 8 ≤ p
  · go_enter Tryd.func10, Tryd.ntmps10
    go_wp2_with (go_at_call 25; refine (Tryd.may_no _ _ hp).mono ?_; rintro e w' ⟨rfl, rfl⟩)
    go_ret
    exact ⟨rfl, rfl⟩
  · have hp1 : 0 ≤ p := by omega
    have hp2 : p < 8 := by omega
    by_cases h1 : m < 1
    · clear h hp
      go_enter Tryd.func10, Tryd.ntmps10
      go_wp2_with (go_at_call 25; refine (Tryd.may_yes _ _ hp1 hp2).mono ?_; rintro e w' ⟨rfl, rfl⟩)
      go_ret
      exact ⟨rfl, rfl⟩
    · have h1' : 1 ≤ m := by omega
      by_cases h2 : (N : Int) < m
      · clear h hp h1
        go_enter Tryd.func10, Tryd.ntmps10
        go_wp2_with (go_at_call 25; refine (Tryd.may_yes _ _ hp1 hp2).mono ?_; rintro e w' ⟨rfl, rfl⟩)
        go_ret
        exact ⟨rfl, rfl⟩
      · have h2' : m ≤ N := by omega
        by_cases h3 : f < 0
        · clear h hp h1 h2
          go_enter Tryd.func10, Tryd.ntmps10
          go_wp2_with (go_at_call 25; refine (Tryd.may_yes _ _ hp1 hp2).mono ?_; rintro e w' ⟨rfl, rfl⟩)
          go_ret
          exact ⟨rfl, rfl⟩
        · have h3' : 0 ≤ f := by omega
          have h4 : (N : Int) - m < f := by omega
          clear h hp h1 h2 h3
          go_enter Tryd.func10, Tryd.ntmps10
          go_wp2_with (go_at_call 25; refine (Tryd.may_yes _ _ hp1 hp2).mono ?_; rintro e w' ⟨rfl, rfl⟩)
          go_ret
          exact ⟨rfl, rfl⟩

set_option maxHeartbeats 400000 in
theorem Tryd.Place_gap (F : Nat → Prop) (b N : Nat) (L : List Win) (p f m : Nat) (w : World) (ht : Tab w F b N L) (hN : N ≤ 256) (hp : p < 8) (hm : 1 ≤ m) (hf : f + m ≤ N)
    (h : ∃ i, i < m ∧ taken L (f + i) = true) :
    Calls Tryd.prog 10 #[.pointer (some ⟨b, 0, none⟩), .int .i64 p, .int .i64 f, .int .i64 m] w fun e w' => e = .returned (.int .i64 8) ∧ w = w' := by
  obtain ⟨A, c, hT, hW, hb⟩ := ht
  have hc0 : w.cell? ⟨b, 0, none⟩ = some (.int .i64 N) := Blk.cell hT 0
  obtain ⟨q, hq, hqt⟩ := h
  have HT := hide hT
  have Hq := hide hqt
  clear hT hqt
  have d1 : decide ((m : Int) < 1) = false := decide_eq_false (by omega)
  have d2 : decide (N < m) = false := decide_eq_false (by omega)
  have d3 : decide ((f : Int) < 0) = false := decide_eq_false (by omega)
  have d4 : decide ((N : Int) - m < f) = false := decide_eq_false (by omega)
  go_enter Tryd.func10, Tryd.ntmps10
  go_wp2_with (go_at_call 25; refine (Tryd.may_yes _ _ (by omega) (by omega)).mono ?_; rintro e w' ⟨rfl, rfl⟩)
  go_loop [8, 9, 41] (fun _ _ i => ∃ k : Nat, k ≤ q ∧ i = .int .i64 k) (fun _ _ i => m - (intOf i).toNat)
  case atStart => exact ⟨0, Nat.zero_le _, rfl⟩
  case round =>
    obtain ⟨k, hk, rfl⟩ := hrel
    have hkm : k < m := by omega
    cases hS : taken L (f + k) with
    | true =>
      have hh := Tryd.Has_tab b N _ _ ((f : Int) + k) w (by omega) (by omega) HT.out
      rw [show ((f : Int) + k).toNat = f + k by omega, hS] at hh
      have Hh := hide hh
      clear hh hS
      go_wp2_with (go_at_call 26; refine Hh.out.mono ?_; rintro e w' ⟨rfl, rfl⟩)
      go_ret
      exact ⟨rfl, rfl⟩
    | false =>
      have hkq : k < q := by
        rcases Nat.lt_or_ge k q with h | h
        · exact h
        · obtain rfl : k = q := by omega
          rw [Hq.out] at hS; cases hS
      have hh := Tryd.Has_tab b N _ _ ((f : Int) + k) w (by omega) (by omega) HT.out
      rw [show ((f : Int) + k).toNat = f + k by omega, hS] at hh
      have Hh := hide hh
      clear hh hS
      go_wp2_with (go_at_call 26; refine Hh.out.mono ?_; rintro e w' ⟨rfl, rfl⟩)
      go_round
      case rel => exact ⟨k + 1, hkq, by go_num⟩
      case measure => simp [intOf]; omega

/-- a window put into a list of windows by where it begins -/
def insW (L : List Win) (x : Win) : List Win := L.filter (fun y => decide (y.2.1 < x.2.1)) ++ x :: L.filter (fun y => decide (x.2.1 ≤ y.2.1))

/-- the windows: within the frame, one behind the other -/
def OkW (N : Nat) (L : List Win) : Prop := (∀ x ∈ L, x.1 < 8 ∧ 1 ≤ x.2.2 ∧ x.2.1 + x.2.2 ≤ N) ∧ L.Pairwise (fun x y => x.2.1 + x.2.2 ≤ y.2.1)

theorem taken_perm {L L' : List Win} (h : L'.Perm L) : taken L' = taken L := by
  funext k
  unfold taken
  rw [Bool.eq_iff_iff, List.any_eq_true, List.any_eq_true]
  exact ⟨fun ⟨x, hx, hk⟩ => ⟨x, h.subset hx, hk⟩, fun ⟨x, hx, hk⟩ => ⟨x, h.symm.subset hx, hk⟩⟩
theorem taken_snoc (L : List Win) (x : Win) : taken (L ++ [x]) = upR (taken L) x.2.1 x.2.2 true := by
  funext k
  unfold taken upR inW
  rw [List.any_append]
  by_cases h : x.2.1 ≤ k ∧ k < x.2.1 + x.2.2
  · rw [if_pos h]; simp [h]
  · rw [if_neg h]
    have : (decide (x.2.1 ≤ k) && decide (k < x.2.1 + x.2.2)) = false := by
      rw [Bool.eq_false_iff]
      intro hh
      simp at hh
      exact h hh
    simp [this]

theorem OkW.length {N : Nat} {L : List Win} (h : OkW N L) : L.length ≤ N := by
  suffices all : ∀ (L : List Win) (a : Nat), (∀ x ∈ L, 1 ≤ x.2.2 ∧ a ≤ x.2.1 ∧ x.2.1 + x.2.2 ≤ N) → L.Pairwise (fun x y => x.2.1 + x.2.2 ≤ y.2.1) → a ≤ N → a + L.length ≤ N by
    have := all L 0 (fun x hx => ⟨(h.1 x hx).2.1, Nat.zero_le _, (h.1 x hx).2.2⟩) h.2 (Nat.zero_le _)
    omega
  intro L
  induction L with
  | nil => intro a _ _ ha; simpa using ha
  | cons x L ih =>
    intro a hx hp ha
    obtain ⟨h1, h2, h3⟩ := hx x (by simp)
    rw [List.pairwise_cons] at hp
    have := ih (x.2.1 + x.2.2) (fun y hy => ⟨(hx y (by simp [hy])).1, hp.1 y hy, (hx y (by simp [hy])).2.2⟩) hp.2 h3
    simp
    omega

/-- the sorted list is the one with the window put in its place -/
theorem ins_unique {N : Nat} {L L' : List Win} {x : Win} (hL : OkW N L) (hx : 1 ≤ x.2.2) (hfree : ∀ i, i < x.2.2 → taken L (x.2.1 + i) = false)
    (hp : L'.Perm (L ++ [x])) (hs : L'.Pairwise (fun y z => y.2.1 ≤ z.2.1)) : L' = insW L x := by
  have hno : ∀ y ∈ L, y.2.1 + y.2.2 ≤ x.2.1 ∨ x.2.1 + x.2.2 ≤ y.2.1 := by
    intro y hy
    have hy1 := (hL.1 y hy).2.1
    apply Classical.byContradiction
    intro hc
    have h1 : ∃ k, x.2.1 ≤ k ∧ k < x.2.1 + x.2.2 ∧ y.2.1 ≤ k ∧ k < y.2.1 + y.2.2 := by
      by_cases h : x.2.1 ≤ y.2.1
      · exact ⟨y.2.1, by omega, by omega, by omega, by omega⟩
      · exact ⟨x.2.1, by omega, by omega, by omega, by omega⟩
    obtain ⟨k, k1, k2, k3, k4⟩ := h1
    have := hfree (k - x.2.1) (by omega)
    rw [show x.2.1 + (k - x.2.1) = k by omega] at this
    have ht : taken L k = true := by
      unfold taken
      rw [List.any_eq_true]
      exact ⟨y, hy, by simp [inW, k3, k4]⟩
    rw [ht] at this
    cases this
  have hmem : ∀ y ∈ L', y ∈ L ∨ y = x := fun y hy => by simpa using hp.subset hy
  have hpw : (insW L x).Pairwise (fun y z => y.2.1 ≤ z.2.1) := by
    unfold insW
    rw [List.pairwise_append]
    have hl : L.Pairwise (fun y z => y.2.1 ≤ z.2.1) := hL.2.imp (fun h => by omega)
    refine ⟨hl.filter _, ?_, ?_⟩
    · rw [List.pairwise_cons]
      exact ⟨fun z hz => by simp at hz; omega, hl.filter _⟩
    · intro y hy z hz
      simp at hy hz
      rcases hz with rfl | hz
      · omega
      · omega
  have hper : (insW L x).Perm (L ++ [x]) := by
    unfold insW
    have h1 : (L.filter (fun y => decide (y.2.1 < x.2.1)) ++ L.filter (fun y => decide (x.2.1 ≤ y.2.1))).Perm L := by
      have := List.filter_append_perm (fun y : Win => decide (y.2.1 < x.2.1)) L
      have e : L.filter (fun y => decide (x.2.1 ≤ y.2.1)) = L.filter (fun y => !decide (y.2.1 < x.2.1)) := by
        apply List.filter_congr
        intro y _
        by_cases h : y.2.1 < x.2.1
        · rw [decide_eq_true h, decide_eq_false (by omega)]; rfl
        · rw [decide_eq_false h, decide_eq_true (by omega)]; rfl
      rw [e]
      exact this
    refine List.perm_middle.trans ?_
    refine ((List.Perm.cons x h1).trans ?_)
    exact (List.perm_append_singleton x L).symm
  refine List.Perm.eq_of_pairwise (le := fun y z : Win => y.2.1 ≤ z.2.1) ?_ hs hpw (hp.trans hper.symm)
  intro y z hy hz h1 h2
  have hz' : z ∈ L ∨ z = x := by simpa using hper.subset hz
  have e : y.2.1 = z.2.1 := by omega
  rcases hmem y hy with hy | rfl
  · rcases hz' with hz | rfl
    · apply Classical.byContradiction
      intro hne
      have : ∀ (l : List Win), l.Pairwise (fun x y => x.2.1 + x.2.2 ≤ y.2.1) → (∀ x ∈ l, 1 ≤ x.2.2) → y ∈ l → z ∈ l → False := by
        intro l
        induction l with
        | nil => intro _ _ hy _; cases hy
        | cons a l ih =>
          intro hp hl hy hz
          rw [List.pairwise_cons] at hp
          rcases List.mem_cons.1 hy with e1 | hy'
          · rcases List.mem_cons.1 hz with e2 | hz'
            · exact hne (e1.trans e2.symm)
            · have := hp.1 z hz'; have := hl a (by simp); subst e1; omega
          · rcases List.mem_cons.1 hz with e2 | hz'
            · have := hp.1 y hy'; have := hl a (by simp); subst e2; omega
            · exact ih hp.2 (fun x hx => hl x (by simp [hx])) hy' hz'
      exact this L hL.2 (fun x hx => (hL.1 x hx).2.1) hy hz
    · have := hno y hy
      have := (hL.1 y hy).2.1
      omega
  · rcases hz' with hz | rfl
    · have := hno z hz
      have := (hL.1 z hz).2.1
      omega
    · rfl

theorem OkW.ins {N : Nat} {L : List Win} {x : Win} (hL : OkW N L) (h1 : x.1 < 8) (h2 : 1 ≤ x.2.2) (h3 : x.2.1 + x.2.2 ≤ N) (hfree : ∀ i, i < x.2.2 → taken L (x.2.1 + i) = false) : OkW N (insW L x) := by
  have hno : ∀ y ∈ L, y.2.1 + y.2.2 ≤ x.2.1 ∨ x.2.1 + x.2.2 ≤ y.2.1 := by
    intro y hy
    have hy1 := (hL.1 y hy).2.1
    apply Classical.byContradiction
    intro hc
    have h1 : ∃ k, x.2.1 ≤ k ∧ k < x.2.1 + x.2.2 ∧ y.2.1 ≤ k ∧ k < y.2.1 + y.2.2 := by
      by_cases h : x.2.1 ≤ y.2.1
      · exact ⟨y.2.1, by omega, by omega, by omega, by omega⟩
      · exact ⟨x.2.1, by omega, by omega, by omega, by omega⟩
    obtain ⟨k, k1, k2, k3, k4⟩ := h1
    have := hfree (k - x.2.1) (by omega)
    rw [show x.2.1 + (k - x.2.1) = k by omega] at this
    have ht : taken L k = true := by
      unfold taken
      rw [List.any_eq_true]
      exact ⟨y, hy, by simp [inW, k3, k4]⟩
    rw [ht] at this
    cases this
  refine ⟨fun y hy => ?_, ?_⟩
  · unfold insW at hy
    simp at hy
    rcases hy with hy | rfl | hy
    · exact hL.1 y hy.1
    · exact ⟨h1, h2, h3⟩
    · exact hL.1 y hy.1
  · unfold insW
    rw [List.pairwise_append]
    refine ⟨hL.2.filter _, ?_, ?_⟩
    · rw [List.pairwise_cons]
      refine ⟨fun z hz => ?_, hL.2.filter _⟩
      simp at hz
      have := hno z hz.1
      have := (hL.1 z hz.1).2.1
      omega
    · intro y hy z hz
      simp at hy hz
      have hy' := hno y hy.1
      have := (hL.1 y hy.1).2.1
      rcases hz with rfl | hz
      · omega
      · have := hno z hz.1
        have := (hL.1 z hz.1).2.1
        omega
end Go.Proofs
