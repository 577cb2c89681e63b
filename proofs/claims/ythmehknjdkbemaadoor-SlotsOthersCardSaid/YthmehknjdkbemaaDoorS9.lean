/- The contract of slots.Insert. -/
import Derived.Test.YthmehknjdkbemaaDoorS8
import Derived.Test.YthmehknjdkbemaaDoorS5
namespace Go.Proofs
open Go.RowKit Go.Tr

theorem Tryd.Insert_bad (F : Nat → Prop) (b N : Nat) (L : List Win) (p m : Int) (w : World) (h : p < 0 ∨ 8 ≤ p ∨ m < 1) :
    Calls Tryd.prog 12 #[.pointer (some ⟨b, 0, none⟩), .int .i64 p, .int .i64 m] w fun e w' => e = .returned (.tuple #[.int .i64 0, .int .i64 1]) ∧ w = w' := by
  by_cases hp : p < 0 ∨ 8 ≤ p
  · clear h
    go_enter Tryd.func12, Tryd.ntmps12
    go_wp2_with (go_at_call 25; refine (Tryd.may_no _ _ hp).mono ?_; rintro e w' ⟨rfl, rfl⟩)
    go_ret2
    exact ⟨rfl, rfl⟩
  · have hp1 : 0 ≤ p := by omega
    have hp2 : p < 8 := by omega
    have h1 : m < 1 := by omega
    clear h hp
    go_enter Tryd.func12, Tryd.ntmps12
    go_wp2_with (go_at_call 25; refine (Tryd.may_yes _ _ hp1 hp2).mono ?_; rintro e w' ⟨rfl, rfl⟩)
    go_ret2
    exact ⟨rfl, rfl⟩

theorem WinsAt.keep {w w' : World} {F : Nat → Prop} {A : Option Addr} {c : Nat} {L : List Win} (h : WinsAt w F A c L) (hk : ∀ k, k < w.heap.size → F k → w'.heap[k]? = w.heap[k]?) : WinsAt w' F A c L := by
  obtain ⟨ho, hF'⟩ := h
  refine ⟨⟨ho.1, ?_⟩, hF'⟩
  rcases ho.2 with h0 | ⟨g, cap, cur, hv, hb, hg, r⟩
  · exact .inl h0
  · injection hv with hv1 hv2 hv3
    refine .inr ⟨g, cap, cur, by rw [hv1, hv3], hb, ?_, r⟩
    rw [hk g (Array.getElem?_eq_some_iff.1 hg).1 (hF' ⟨g, 0, none⟩ hv1)]
    exact hg
theorem Tab.keep {w w' : World} {F : Nat → Prop} {b N : Nat} {L : List Win} (h : Tab w F b N L) (hk : ∀ k, k < w.heap.size → F k → w'.heap[k]? = w.heap[k]?) : Tab w' F b N L := by
  obtain ⟨A, c, hT, hW, hF⟩ := h
  exact ⟨A, c, (hk b (Blk.lt hT) hF).trans hT, hW.keep hk, hF⟩
theorem Tab.mono {w : World} {F G : Nat → Prop} {b N : Nat} {L : List Win} (h : Tab w F b N L) (hG : ∀ k, k < w.heap.size → F k → G k) : Tab w G b N L := by
  obtain ⟨A, c, hT, hW, hF⟩ := h
  refine ⟨A, c, hT, ⟨hW.1, fun a ha => hG _ ?_ (hW.2 a ha)⟩, hG _ (Blk.lt hT) hF⟩
  rcases hW.1.2 with ⟨h0, _⟩ | ⟨g, cap, cur, hv, hb, hg, r⟩
  · injection h0 with h0; rw [ha] at h0; cases h0
  · injection hv with hv1
    rw [ha] at hv1
    injection hv1 with hv1
    rw [hv1]
    exact (Array.getElem?_eq_some_iff.1 hg).1
theorem Tab.below {w w' : World} {F : Nat → Prop} {b N : Nat} {L : List Win} (h : Tab w F b N L) (hb : Below w.heap.size w w') : Tab w' F b N L := h.keep fun k hk _ => hb.block k hk
theorem Tab.fr {w w' : World} {F G : Nat → Prop} {b N : Nat} {L : List Win} (h : Tab w F b N L) (hf : Fr G w w') (hG : ∀ k, k < w.heap.size → F k → ¬ G k) : Tab w' F b N L := h.keep fun k hk hF => hf.block k hk (hG k hk hF)
theorem Tab.drew {w : World} {F : Nat → Prop} {b N : Nat} {L : List Win} (h : Tab w F b N L) : Tab w.drew F b N L := h
theorem Fr.of_grown {F : Nat → Prop} {w w' : World} (h : Below w.heap.size w w') : Fr F w w' := Fr.of_below h (fun k h1 h2 => by omega)

theorem New.grow {F : Nat → Prop} {w w1 w2 : World} (h1 : w.heap.size ≤ w1.heap.size) : ∀ k, New F w1 w2 k → New F w w2 k := by
  rintro k (h | h)
  · exact .inl h
  · exact .inr ⟨by omega, h.2⟩

set_option maxHeartbeats 400000 in
theorem Tryd.Insert_in (F : Nat → Prop) (b N : Nat) (L : List Win) (p m : Nat) (w : World) (ht : Tab w F b N L) (hTb : Tbl w) (hL : OkW N L) (hN : N ≤ 256) (hp : p < 8) (hm : 1 ≤ m) (hm2 : m ≤ 9223372036854775807) :
    Calls Tryd.prog 12 #[.pointer (some ⟨b, 0, none⟩), .int .i64 p, .int .i64 m] w fun e w' =>
      ((e = .returned (.tuple #[.int .i64 0, .int .i64 8]) ∧ (∀ f, f + m ≤ N → ∃ j, f ≤ j ∧ j < f + m ∧ taken L j = true) ∧ Tab w' F b N L) ∨
       (∃ f : Nat, e = .returned (.tuple #[.int .i64 f, .int .i64 0]) ∧ f + m ≤ N ∧ (∀ j, f ≤ j → j < f + m → taken L j = false) ∧ (∀ f', f' < f → ∃ j, f' ≤ j ∧ j < f' + m ∧ taken L j = true) ∧ Tab w' (New F w w') b N (insW L (p, f, m)))) ∧ Fr F w w' := by
  have ht0 := ht
  obtain ⟨A, c, hT, hW, hb⟩ := ht
  have hc0 : w.cell? ⟨b, 0, none⟩ = some (.int .i64 N) := Blk.cell hT 0
  have HT := hide hT
  have HL := hide hL
  have HTb := hide hTb
  have Ht := hide ht0
  clear hT hW hL hTb ht0
  have d1 : decide ((m : Int) < 1) = false := decide_eq_false (by omega)
  go_enter Tryd.func12, Tryd.ntmps12
  go_wp2_with (go_at_call 25; refine (Tryd.may_yes _ _ (by omega) (by omega)).mono ?_; rintro e w' ⟨rfl, rfl⟩)
  go_region_with (go_at_call 30; refine (Tryd.Gap_in b N m N (taken L) _ _ hm hm2 hN (TabX.drew HT.out) HTb.out).mono ?_; rintro e w1 ⟨⟨r, rfl, hspec⟩, hB⟩)
  have hT1 := Ht.out.drew.below hB
  have hF1 : Fr F w w1 := ((Fr.refl F w).drew).trans (Fr.of_grown hB)
  have HB := hide hB
  clear hB
  rcases hspec with ⟨rfl, hno⟩ | ⟨f, rfl, hf, hfree, hleast⟩
  · have Hno := hide hno
    have HT1 := hide hT1
    clear hno hT1
    go_wp2
    go_ret2
    exact ⟨.inl ⟨rfl, Hno.out, HT1.out⟩, hF1⟩
  · have Hfree := hide hfree
    have Hleast := hide hleast
    have HT1 := hide hT1
    clear hfree hleast hT1
    go_wp2_with (go_at_call 10; refine (Tryd.Place_ok F b N L p f m w1 HT1.out HL.out hN hp hm hf (fun i hi => Hfree.out _ (by omega) (by omega))).mono ?_; rintro e w2 ⟨rfl, hT2, hF2⟩)
    go_ret2
    exact ⟨.inr ⟨f, rfl, hf, Hfree.out, Hleast.out, hT2.mono fun k _ => New.grow hF1.size k⟩, hF1.trans hF2⟩
end Go.Proofs
