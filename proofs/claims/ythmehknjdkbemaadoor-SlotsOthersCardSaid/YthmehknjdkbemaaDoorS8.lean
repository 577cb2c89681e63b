/- The contract of slots.Place where the window is free. -/
import Derived.Test.YthmehknjdkbemaaDoorS7
namespace Go.Proofs
open Go.RowKit Go.Tr

/-- what may have come: the numbers of the blocks that are new -/
def New (F : Nat → Prop) (w w' : World) : Nat → Prop := fun k => F k ∨ (w.heap.size ≤ k ∧ k < w'.heap.size)

theorem WinsAt.cells {w w' : World} {F F' : Nat → Prop} {A : Option Addr} {c : Nat} {L : List Win} (h : WinsAt w F A c L) (hf : Fr F' w w') (hF : ∀ k, F k → ¬ F' k) : WinsAt w' F A c L := by
  obtain ⟨ho, hF'⟩ := h
  refine ⟨⟨ho.1, ?_⟩, hF'⟩
  rcases ho.2 with h0 | ⟨g, cap, cur, hv, hb, hg, r⟩
  · exact .inl h0
  · injection hv with hv1 hv2 hv3
    refine .inr ⟨g, cap, cur, by rw [hv1, hv3], hb, ?_, r⟩
    rw [hf.block g (Array.getElem?_eq_some_iff.1 hg).1 (hF g (hF' ⟨g, 0, none⟩ hv1))]
    exact hg

theorem rowW_snoc (L : List Win) (x : Win) : rowW L ++ [.int .i64 x.1, .int .i64 x.2.1, .int .i64 x.2.2] = rowW (L ++ [x]) := by simp [rowW, encW]

theorem after_append {w2 : World} {b N g n c cap : Nat} {S : Nat → Bool} {A : Option Addr} {L : List Win} {x : Win} (hT : TabX w2 b N S (.slice A n c))
    (ho : w2.ownsRow 0 58 3 (.slice (some ⟨g, 0, none⟩) (L.length + 1) cap) (L.length + 1) (rowW L ++ [.int .i64 x.1, .int .i64 x.2.1, .int .i64 x.2.2])) :
    TabX (w2.setCell ⟨b, 5, none⟩ (.slice (some ⟨g, 0, none⟩) (L.length + 1) cap)) b N S (.slice (some ⟨g, 0, none⟩) (L.length + 1) cap) ∧
    (w2.setCell ⟨b, 5, none⟩ (.slice (some ⟨g, 0, none⟩) (L.length + 1) cap)).ownsRow 0 58 3 (.slice (some ⟨g, 0, none⟩) (L.length + 1) cap) (L.length + 1) (rowW (L ++ [x])) ∧ g ≠ b := by
  rw [rowW_snoc] at ho
  have hne : g ≠ b := by
    rcases ho.2 with ⟨_, h0⟩ | ⟨g', cap', cur, hv, _, hg, _⟩
    · omega
    · injection hv with hv1
      injection hv1 with hv1
      injection hv1 with hv1
      subst hv1
      exact Blk.ne (t := 58) (t' := 56) hg hT (by decide)
  refine ⟨Blk.set hT 5 _, ⟨ho.1, ?_⟩, hne⟩
  rcases ho.2 with h0 | ⟨g', cap', cur, hv, hb, hg, r⟩
  · exact .inl h0
  · refine .inr ⟨g', cap', cur, hv, hb, ?_, r⟩
    injection hv with hv1
    injection hv1 with hv1
    injection hv1 with hv1
    subst hv1
    rw [Below.heap_setCell _ _ _ _ hne]
    exact hg

theorem place_end {F : Nat → Prop} {b N g cap c : Nat} {w w1 w2 w3 : World} {A : Option Addr} {L L' : List Win} {x : Win} {v : Value} {o : Obj} (hL : OkW N L) (hx : 1 ≤ x.2.2) (hfree : ∀ i, i < x.2.2 → taken L (x.2.1 + i) = false)
    (hb : F b) (hFA : ∀ a, A = some a → F a.block) (hF1 : Fr (fun j => j = b) w w1) (hgrow : World.grownBy (w1.alloc o).drew w2 (Value.slice A L.length c).ownBlock)
    (hat : (Value.slice A L.length c).ownBlock = some g ∨ w.heap.size ≤ g) (hT3 : TabX (w2.setCell ⟨b, 5, none⟩ v) b N (upR (taken L) x.2.1 x.2.2 true) (.slice (some ⟨g, 0, none⟩) (L.length + 1) cap)) (hgb : g ≠ b)
    (hp : L'.Perm (L ++ [x])) (hs : L'.Pairwise (fun y z => y.2.1 ≤ z.2.1)) (ho : w3.ownsRow 0 58 3 (.slice (some ⟨g, 0, none⟩) (L.length + 1) cap) (L.length + 1) (rowW L'))
    (hF3 : Fr (fun j => j = g) (w2.setCell ⟨b, 5, none⟩ v) w3) : Tab w3 (New F w w3) b N (insW L x) ∧ Fr F w w3 := by
  have e := ins_unique hL hx hfree hp hs
  have ht : upR (taken L) x.2.1 x.2.2 true = taken L' := by rw [taken_perm hp, taken_snoc]
  have hl : L'.length = L.length + 1 := by rw [hp.length_eq]; simp
  rw [ht, ← hl] at hT3
  rw [← hl] at ho
  have hFg : ∀ k, k < w.heap.size → k = g → F k := by
    rintro k hk rfl
    rcases hat with h | h
    · cases A with
      | none => cases h
      | some a => injection h with h; rw [← h]; exact hFA a rfl
    · omega
  have hglt : g < w3.heap.size := by
    rcases ho.2 with ⟨h0, _⟩ | ⟨g', cap', cur, hv, _, hg, _⟩
    · cases h0
    · injection hv with hv1
      injection hv1 with hv1
      injection hv1 with hv1
      subst hv1
      exact (Array.getElem?_eq_some_iff.1 hg).1
  have hfr : Fr F w w3 := by
    refine Fr.trans_new (Fr.trans_new (hF1.mono (G := F) fun k _ h => by rw [h]; exact hb) (Fr.setCell (F := fun k => k = b ∨ (Value.slice A L.length c).ownBlock = some k) (Fr.trans_new ((Fr.refl _ w1).alloc o).drew (Fr.of_grownBy hgrow (F := fun k => (Value.slice A L.length c).ownBlock = some k) (fun k h _ => h)) (fun k _ h => .inr h)) (p := ⟨b, 5, none⟩) (fun _ => .inl rfl) v) ?_) hF3 hFg
    rintro k hk (rfl | h)
    · exact hb
    · cases A with
      | none => cases h
      | some a => injection h with h; rw [← h]; exact hFA a rfl
  refine ⟨?_, hfr⟩
  rw [← e]
  refine ⟨some ⟨g, 0, none⟩, cap, Blk.fr hT3 hF3 (fun h => hgb h.symm), ⟨ho, ?_⟩, .inl hb⟩
  rintro a rfl'
  injection rfl' with h
  rw [← h]
  rcases hat with h | h
  · cases A with
    | none => cases h
    | some a => injection h with h; rw [← h]; exact .inl (hFA a rfl)
  · exact .inr ⟨h, hglt⟩

set_option maxHeartbeats 1000000 in
theorem Tryd.Place_ok (F : Nat → Prop) (b N : Nat) (L : List Win) (p f m : Nat) (w : World) (ht : Tab w F b N L) (hL : OkW N L) (hN : N ≤ 256) (hp : p < 8) (hm : 1 ≤ m) (hf : f + m ≤ N)
    (h : ∀ i, i < m → taken L (f + i) = false) :
    Calls Tryd.prog 10 #[.pointer (some ⟨b, 0, none⟩), .int .i64 p, .int .i64 f, .int .i64 m] w fun e w' => e = .returned (.int .i64 0) ∧ Tab w' (New F w w') b N (insW L (p, f, m)) ∧ Fr F w w' := by
  obtain ⟨A, c, hT, hW, hb⟩ := ht
  have hc0 : w.cell? ⟨b, 0, none⟩ = some (.int .i64 N) := Blk.cell hT 0
  have hbw := Blk.lt hT
  have hlen := hL.length
  obtain ⟨i0, hi, hz0, hz1, hz2⟩ := info_parts Tryd.infoW
  have HT := hide hT
  have HW := hide hW
  have HL := hide hL
  have Hh := hide h
  have Hi : Hid (∃ i : TypeInfo, Tryd.prog.info? 58 = some i ∧ i.zero = some (.agg #[.int .i64 0, .int .i64 0, .int .i64 0]) ∧ i.size = 3 ∧ i.bytes = 24) := ⟨i0, hi, hz0, hz1, hz2⟩
  clear hT hW hL h hi hz0 hz1 hz2
  have d1 : decide ((m : Int) < 1) = false := decide_eq_false (by omega)
  have d2 : decide (N < m) = false := decide_eq_false (by omega)
  have d3 : decide ((f : Int) < 0) = false := decide_eq_false (by omega)
  have d4 : decide ((N : Int) - m < f) = false := decide_eq_false (by omega)
  go_enter Tryd.func10, Tryd.ntmps10
  go_wp2_with (go_at_call 25; refine (Tryd.may_yes _ _ (by omega) (by omega)).mono ?_; rintro e w' ⟨rfl, rfl⟩)
  go_loop [8, 9, 41] (fun _ _ i => ∃ k : Nat, k ≤ m ∧ i = .int .i64 k) (fun _ _ i => m - (intOf i).toNat)
  case atStart => exact ⟨0, Nat.zero_le _, rfl⟩
  case round =>
    obtain ⟨k, hk, rfl⟩ := hrel
    by_cases hkm : k < m
    · have hh := Tryd.Has_tab b N _ _ ((f : Int) + k) w (by omega) (by omega) HT.out
      rw [show ((f : Int) + k).toNat = f + k by omega, Hh.out k hkm] at hh
      have Hhh := hide hh
      clear hh
      go_wp2_with (go_at_call 26; refine Hhh.out.mono ?_; rintro e w' ⟨rfl, rfl⟩)
      go_round
      case rel => exact ⟨k + 1, hkm, by go_num⟩
      case measure => simp [intOf]; omega
    · obtain rfl : k = m := by omega
      go_wp2_with (go_at_call 27; refine (Tryd.mark_in b N _ _ _ _ _ true _ (by omega) (TabX.alloc HT.out _)).mono ?_; rintro e w1 ⟨rfl, hT1, hF1⟩)
      obtain ⟨hown, hFA⟩ := HW.out
      have hFrw : Fr (fun j => j = b) w w1 := ((Fr.refl (fun j => j = b) w).alloc _).trans hF1
      have hWb : ∀ a, A = some a → a.block ≠ b := by
        intro a ha hab
        rcases hown.2 with ⟨h0, _⟩ | ⟨g, cap, cur, hv, _, hg, _⟩
        · injection h0 with h0; rw [ha] at h0; cases h0
        · injection hv with hv1
          rw [ha] at hv1
          injection hv1 with hv1
          rw [hv1] at hab
          exact Blk.ne (t := 58) (t' := 56) hg HT.out (by decide) hab
      have hW1 : WinsAt w1 (fun j => F j ∧ j ≠ b) A c L := (show WinsAt w (fun j => F j ∧ j ≠ b) A c L from ⟨hown, fun a ha => ⟨hFA a ha, hWb a ha⟩⟩).cells hFrw (fun j hj => hj.2)
      have hown1 := hide hW1.1
      have hz1 : w.heap.size < w1.heap.size := Nat.lt_of_lt_of_le (by simp) hF1.size
      have a5 : w1.cell? ⟨b, 5, none⟩ = some (.slice A L.length c) := Blk.cell hT1 5
      have f5 := Blk.frozen hT1 5
      have b0 : w1.cell? ⟨w.heap.size, 0, none⟩ = some (.int .i64 p) := (hF1.cell (p := ⟨w.heap.size, 0, none⟩) (by simp) (by simp; omega)).trans ((Blk.new w _ _).cell 0)
      have b1 : w1.cell? ⟨w.heap.size, 1, none⟩ = some (.int .i64 f) := (hF1.cell (p := ⟨w.heap.size, 1, none⟩) (by simp) (by simp; omega)).trans ((Blk.new w _ _).cell 1)
      have b2 : w1.cell? ⟨w.heap.size, 2, none⟩ = some (.int .i64 k) := (hF1.cell (p := ⟨w.heap.size, 2, none⟩) (by simp) (by simp; omega)).trans ((Blk.new w _ _).cell 2)
      have Hnb : Hid (some b ≠ (Value.slice A L.length c).ownBlock) := by
        intro he
        cases A with
        | none => cases he
        | some a => exact hWb a rfl (by injection he with he; exact he.symm)
      have hb1 : b < w1.heap.size := by omega
      have HF := hide hFrw
      have HT1 := hide hT1
      clear hT1 hF1 hFrw hW1 hown hc0 hWb
      obtain ⟨i0, hi, hz0, hz1', hz2⟩ := Hi.out
      have Hi1 := hide hi
      have Hi2 := hide hz0
      have Hi3 := hide hz1'
      have Hi4 := hide hz2
      clear hi hz0 hz1' hz2
      go_region_law (refine step_append_lies _ rfl (.tmp 63) (.tmp 65) 54 rfl 0 58 i0 (.agg #[.int .i64 0, .int .i64 0, .int .i64 0]) 3 24 Tryd.underlying54 Hi1.out Hi2.out Hi3.out Hi4.out rfl (by decide) (.slice A L.length c) L.length (rowW L) (by simp [Act.eval, Act.put]) (World.ownsRow.alloc hown1.out _) ⟨w1.heap.size, 0, none⟩ 1 1 [.int .i64 p, .int .i64 f, .int .i64 k] (by simp [Act.eval, Act.put]) rfl (World.news_of_block (heap_alloc_new w1 _)) (by intro u hu; simp at hu; rcases hu with rfl | rfl | rfl <;> rfl) (by omega) (by unfold maxLen; omega) (by omega) (Nat.zero_le _) _ rfl ?_; intro g cap w2 hown2 hgrow hat hlt2; have hT2 : Hid (TabX w2 b N (upR (taken L) f k true) (.slice A L.length c)) := ((hgrow.block b (Nat.lt_of_lt_of_le hb1 (by simp)) Hnb.out).trans (Blk.alloc HT1.out _)); have g5 : w2.cell? ⟨b, 5, none⟩ = some (.slice A L.length c) := Blk.cell hT2.out 5; have gf5 := Blk.frozen hT2.out 5)
      all_goals
        obtain ⟨hT3, ho3, hgb⟩ := after_append (x := (p, f, k)) hT2.out hown2
        have g5' : (w2.setCell ⟨b, 5, none⟩ (.slice (some ⟨g, 0, none⟩) (L.length + 1) cap)).cell? ⟨b, 5, none⟩ = some (.slice (some ⟨g, 0, none⟩) (L.length + 1) cap) := Blk.cell hT3 5
        have hat' : (Value.slice A L.length c).ownBlock = some g ∨ w.heap.size ≤ g := hat.imp id (fun e => by rw [e]; simp; omega)
        have Ho3 := hide ho3
        have HT3 := hide hT3
        have Hgrow := hide hgrow
        have Hat := hide hat'
        clear hT3 ho3 hgrow hat hat' hown2 hT2 g5 gf5 a5 f5 b0 b1 b2
        go_wp2_with (go_at_call 28; refine (Tryd.sort_in g (L.length + 1) cap (L ++ [(p, f, k)]) _ Ho3.out (by simp) (by omega) (by omega)).mono ?_; rintro e w3 ⟨rfl, L', hp', hs', ho4, hF3⟩)
        go_ret
        exact ⟨rfl, place_end (x := (p, f, k)) HL.out hm Hh.out hb hFA HF.out Hgrow.out Hat.out HT3.out hgb hp' hs' ho4 hF3⟩
end Go.Proofs
