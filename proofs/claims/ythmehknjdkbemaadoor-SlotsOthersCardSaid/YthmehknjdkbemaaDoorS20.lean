/- A table beside rows that stay: the same contracts, and what is kept. Laws of a window put and taken away. -/
import Derived.Test.YthmehknjdkbemaaDoorS18
namespace Go.Proofs
open Go.RowKit Go.Tr

/-- St; the blocks of G are not the table's -/
structure StG (G : Nat → Prop) (w0 w : World) (b N : Nat) (L : List Win) : Prop where
  tab : Tab w (fun k => w0.heap.size ≤ k ∧ ¬ G k) b N L
  below : Below w0.heap.size w0 w
  ok : OkW N L
  n : N ≤ 256
  tbl : Tbl w0
  old : ∀ k, G k → k < w.heap.size
structure Kept (G : Nat → Prop) (w w' : World) : Prop where
  size : w.heap.size ≤ w'.heap.size
  block : ∀ k, G k → w'.heap[k]? = w.heap[k]?
theorem SlotRow.kept {G : Nat → Prop} {w w' : World} {A : Option Addr} {M : List Win} (h : SlotRow w A M) (hk : Kept G w w') (hG : ∀ a, A = some a → G a.block) : SlotRow w' A M :=
  h.keep hk.size fun a k ha _ => World.cell?_of_block (a := ⟨a.block, k, none⟩) (hk.block a.block (hG a ha))
theorem StG.tblw {G : Nat → Prop} {w0 w : World} {b N : Nat} {L : List Win} (h : StG G w0 w b N L) : Tbl w := h.tbl.below h.below h.tbl.pos
theorem StG.next {G : Nat → Prop} {w0 w w' : World} {b N : Nat} {L L' : List Win} (h : StG G w0 w b N L) (hT : Tab w' (New (fun k => w0.heap.size ≤ k ∧ ¬ G k) w w') b N L') (hF : Fr (fun k => w0.heap.size ≤ k ∧ ¬ G k) w w') (hok : OkW N L') : StG G w0 w' b N L' ∧ Kept G w w' :=
  ⟨⟨hT.mono (fun k _ hk => hk.elim id fun h2 => ⟨Nat.le_trans h.below.size h2.1, fun hg => by have := h.old k hg; omega⟩), h.below.trans (hF.below h.below.size (fun k hk => by omega)), hok, h.n, h.tbl, fun k hg => Nat.lt_of_lt_of_le (h.old k hg) hF.size⟩,
    ⟨hF.size, fun k hg => hF.block k (h.old k hg) fun hn => hn.2 hg⟩⟩
theorem StG.drewN {G : Nat → Prop} {w0 w : World} {b N : Nat} {L : List Win} (h : StG G w0 w b N L) (q : Nat) : StG G w0 (w.drewN q) b N L := ⟨h.tab, ⟨h.below.os, h.below.tape, h.below.output, h.below.size, h.below.block⟩, h.ok, h.n, h.tbl, h.old⟩
theorem StG.grow {G : Nat → Prop} {w0 w w' : World} {b N : Nat} {L : List Win} (h : StG G w0 w b N L) (hB : Below w.heap.size w w') : StG G w0 w' b N L :=
  ⟨h.tab.below hB, h.below.trans (hB.mono h.below.size), h.ok, h.n, h.tbl, fun k hg => Nat.lt_of_lt_of_le (h.old k hg) hB.size⟩

theorem Tryd.Place_g {G : Nat → Prop} {w0 w : World} {b N : Nat} {L : List Win} (h : StG G w0 w b N L) (p f m : Int) :
    Calls Tryd.prog 10 #[.pointer (some ⟨b, 0, none⟩), .int .i64 p, .int .i64 f, .int .i64 m] w fun e w' =>
      e = .returned (.int .i64 (placeC N L p f m)) ∧ StG G w0 w' b N (placeL N L p f m) ∧ Kept G w w' := by
  refine (Tryd.Place_any _ b N L p f m w h.tab h.ok h.n).mono ?_
  rintro e w' ⟨rfl, hT, hF⟩
  exact ⟨rfl, h.next hT hF (h.ok.placeL p f m)⟩
theorem Tryd.Insert_g {G : Nat → Prop} {w0 w : World} {b N : Nat} {L : List Win} (h : StG G w0 w b N L) (p m : Int) (hm : m ≤ 9223372036854775807) :
    Calls Tryd.prog 12 #[.pointer (some ⟨b, 0, none⟩), .int .i64 p, .int .i64 m] w fun e w' =>
      e = .returned (.tuple #[.int .i64 (insC N L p m).1, .int .i64 (insC N L p m).2]) ∧ StG G w0 w' b N (insL N L p m) ∧ Kept G w w' := by
  refine (Tryd.Insert_any _ b N L p m w h.tab h.tblw h.ok h.n hm).mono ?_
  rintro e w' ⟨rfl, hT, hF⟩
  exact ⟨rfl, h.next hT hF (h.ok.insL p m)⟩
theorem Tryd.Remove_g {G : Nat → Prop} {w0 w : World} {b N : Nat} {L : List Win} (h : StG G w0 w b N L) (p : Int) :
    Calls Tryd.prog 15 #[.pointer (some ⟨b, 0, none⟩), .int .i64 p] w fun e w' =>
      e = .returned (.int .i64 (goneP p L)) ∧ StG G w0 w' b N (keepP p L) ∧ Kept G w w' := by
  refine (Tryd.Remove_in _ b N L p w h.tab h.ok h.n).mono ?_
  rintro e w' ⟨rfl, hT, hF⟩
  exact ⟨rfl, h.next hT hF (h.ok.sub List.filter_sublist)⟩
theorem Tryd.Move_g {G : Nat → Prop} {w0 w : World} {b N : Nat} {L : List Win} (h : StG G w0 w b N L) (p f t : Int) :
    Calls Tryd.prog 13 #[.pointer (some ⟨b, 0, none⟩), .int .i64 p, .int .i64 f, .int .i64 t] w fun e w' =>
      e = .returned (.int .i64 (moveC N L p f t)) ∧ StG G w0 w' b N (moveL N L p f t) ∧ Kept G w w' := by
  refine (Tryd.Move_any _ b N L p f t w h.tab h.ok h.n).mono ?_
  rintro e w' ⟨rfl, hT, hF⟩
  exact ⟨rfl, h.next hT hF (h.ok.moveL p f t)⟩
theorem Tryd.At_g {G : Nat → Prop} {w0 w : World} {b N : Nat} {L : List Win} (h : StG G w0 w b N L) (t : Int) :
    Calls Tryd.prog 11 #[.pointer (some ⟨b, 0, none⟩), .int .i64 t] w fun e w' => e = .returned (.int .i64 (atL L t)) ∧ StG G w0 w' b N L ∧ Below w.heap.size w w' := by
  have hN := h.n
  refine (Tryd.At_in _ b N L t w h.tab (by have := h.ok.length; omega) (fun j x hx => by have := (h.ok.1 x (List.mem_of_getElem? hx)).2.2; omega)).mono ?_
  rintro e w' ⟨rfl, hB⟩
  exact ⟨rfl, h.grow hB, hB⟩
theorem Tryd.Slots_g {G : Nat → Prop} {w0 w : World} {b N : Nat} {L : List Win} (h : StG G w0 w b N L) :
    Calls Tryd.prog 14 #[.pointer (some ⟨b, 0, none⟩)] w fun e w' => ∃ A c, e = .returned (.slice A L.length c) ∧ SlotRow w' A L ∧ StG G w0 w' b N L ∧ Below w.heap.size w w' := by
  have hN := h.n
  refine (Tryd.Slots_in _ b N L w h.tab (by have := h.ok.length; omega)).mono ?_
  rintro e w' ⟨A, c, rfl, ho, hB⟩
  exact ⟨A, c, rfl, SlotRow.of_own ho, h.grow hB, hB⟩
/-- the row that Slots makes is not the table's -/
theorem Tryd.Slots_out {w0 w : World} {b N : Nat} {L : List Win} (h : St w0 w b N L) :
    Calls Tryd.prog 14 #[.pointer (some ⟨b, 0, none⟩)] w fun e w' => ∃ A c, e = .returned (.slice A L.length c) ∧ SlotRow w' A L ∧ StG (fun k => ∃ a, A = some a ∧ k = a.block) w0 w' b N L ∧ Below w.heap.size w w' := by
  have hN := h.n
  refine (Tryd.Slots_in _ b N L w h.tab (by have := h.ok.length; omega)).mono ?_
  rintro e w' ⟨A, c, rfl, ho, hB⟩
  have hA : ∀ a, A = some a → w.heap.size ≤ a.block ∧ a.block < w'.heap.size := by
    rintro a rfl
    exact ho.lt a.block rfl
  refine ⟨A, c, rfl, SlotRow.of_own ho, ⟨?_, h.below.trans (hB.mono h.below.size), h.ok, h.n, h.tbl, ?_⟩, hB⟩
  · have : Tab w (fun k => w0.heap.size ≤ k ∧ ¬ ∃ a, A = some a ∧ k = a.block) b N L := h.tab.mono fun k hk h0 => ⟨h0, by
      rintro ⟨a, ha, rfl⟩
      have := hA a ha
      omega⟩
    exact this.below hB
  · rintro k ⟨a, ha, rfl⟩
    exact (hA a ha).2

theorem split_from {N : Nat} {L : List Win} (h : OkW N L) (a : Nat) : L.filter (fun y => decide (y.2.1 < a)) ++ L.filter (fun y => decide (a ≤ y.2.1)) = L := by
  have hpos : ∀ x ∈ L, 1 ≤ x.2.2 := fun x hx => (h.1 x hx).2.1
  have hp := h.2
  clear h
  induction L with
  | nil => rfl
  | cons z L ih =>
    rw [List.pairwise_cons] at hp
    by_cases hz : z.2.1 < a
    · have e2 : ¬ a ≤ z.2.1 := by omega
      simp only [List.filter_cons, hz, e2, decide_true, decide_false, if_true, if_false, Bool.false_eq_true, List.cons_append]
      rw [ih (fun x hx => hpos x (by simp [hx])) hp.2]
    · have hzp := hpos z (by simp)
      have e1 : (z :: L).filter (fun y => decide (y.2.1 < a)) = [] := by
        rw [List.filter_eq_nil_iff]
        intro y hy
        rcases List.mem_cons.1 hy with rfl | hy
        · simpa using hz
        · have := hp.1 y hy
          simp; omega
      have e2 : (z :: L).filter (fun y => decide (a ≤ y.2.1)) = z :: L := by
        rw [List.filter_eq_self]
        intro y hy
        rcases List.mem_cons.1 hy with rfl | hy
        · simpa using hz
        · have := hp.1 y hy
          simp; omega
      rw [e1, e2]; rfl

/-- no window of partition 7 -/
def No7 (L : List Win) : Prop := ∀ y ∈ L, y.1 ≤ 6
theorem No7.ins {N : Nat} {L : List Win} (h : No7 L) (p m : Int) (hp : p ≤ 6) : No7 (insL N L p m) := by
  unfold insL
  split
  · exact h
  · split
    · exact h
    · intro y hy
      unfold insW at hy
      simp only [List.mem_append, List.mem_cons, List.mem_filter] at hy
      rcases hy with hy | rfl | hy
      · exact h y hy.1
      · simp; omega
      · exact h y hy.1
theorem seven_idx {N : Nat} {L : List Win} (hL : OkW N L) (h : No7 L) (f m : Nat) :
    ∃ k, moveK 7 f (insW L (7, f, m)) = some k ∧ (insW L (7, f, m))[k]? = some (7, f, m) ∧ (insW L (7, f, m)).eraseIdx k = L := by
  have hs := split_from hL f
  have hA : ∀ y ∈ L.filter (fun y => decide (y.2.1 < f)), y.1 ≤ 6 := fun y hy => h y (List.mem_filter.1 hy).1
  refine ⟨(L.filter (fun y => decide (y.2.1 < f))).length, ?_, ?_, ?_⟩
  · unfold moveK insW
    rw [List.findIdx?_append, List.findIdx?_eq_none_iff.2, List.findIdx?_cons]
    · simp [isAt]
    · intro y hy
      have := hA y hy
      simp only [isAt, Bool.and_eq_false_iff, beq_eq_false_iff_ne]
      left; omega
  · unfold insW
    simp
  · unfold insW
    rw [List.eraseIdx_append_of_length_le (Nat.le_refl _)]
    simpa using hs
theorem seven_move {N : Nat} {L : List Win} (hL : OkW N L) (h : No7 L) (f m : Nat) (t : Int) :
    moveC N (insW L (7, f, m)) 7 f t = placeC N L 7 t m ∧ moveL N (insW L (7, f, m)) 7 f t = if placeC N L 7 t m = 0 then insW L (7, t.toNat, m) else insW L (7, f, m) := by
  obtain ⟨k, h1, h2, h3⟩ := seven_idx hL h f m
  have hl : lenAt (insW L (7, f, m)) k = m := by unfold lenAt; rw [h2]; rfl
  unfold moveC moveL
  rw [h1]
  dsimp only
  rw [h3, hl]
  refine ⟨rfl, ?_⟩
  by_cases h0 : placeC N L 7 t m = 0
  · rw [if_pos h0, if_pos h0]
    unfold placeL
    rw [if_pos h0]
    rfl
  · rw [if_neg h0, if_neg h0]
theorem seven_gap {N : Nat} {L : List Win} {f m : Nat} (hm : 1 ≤ m) (h : gapAt N L m = some f) : placeC N L 7 f m = 0 := by
  obtain ⟨h1, h2⟩ := gapAt_some h
  unfold placeC
  rw [if_neg (by omega), if_neg]
  rw [Bool.not_eq_true, List.any_eq_false]
  intro i hi
  have := h2 (f + i) (by omega) (by have : i < m := by simpa using hi
                                    omega)
  simpa using this
theorem seven_keep {N : Nat} {L : List Win} (hL : OkW N L) (h : No7 L) (f m : Nat) : keepP 7 (insW L (7, f, m)) = L ∧ goneP 7 (insW L (7, f, m)) = 1 := by
  have hs := split_from hL f
  have hA : ∀ (q : Win → Bool), (L.filter q).filter (fun x => (x.1 : Int) != 7) = L.filter q := fun q => List.filter_eq_self.2 fun y hy => by
    have := h y (List.mem_filter.1 hy).1
    simp; omega
  have hB : ∀ (q : Win → Bool), (L.filter q).filter (fun x => (x.1 : Int) == 7) = [] := fun q => List.filter_eq_nil_iff.2 fun y hy => by
    have := h y (List.mem_filter.1 hy).1
    simp; omega
  unfold keepP goneP insW
  rw [List.filter_append, List.filter_cons, List.filter_append, List.filter_cons, hA, hA, hB, hB]
  exact ⟨by simpa using hs, by simp⟩
theorem seven_none {L : List Win} (h : No7 L) : goneP 7 L = 0 := by
  unfold goneP
  rw [List.filter_eq_nil_iff.2]
  · rfl
  · intro y hy
    have := h y hy
    simp; omega
end Go.Proofs
