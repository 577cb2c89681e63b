/- The contract of slots.Move. -/
import Derived.Test.YthmehknjdkbemaaDoorS12
import Derived.Test.YthmehknjdkbemaaDoorS14
namespace Go.Proofs
open Go.RowKit Go.Tr

def isAt (p f : Int) (x : Win) : Bool := ((x.1 : Int) == p) && ((x.2.1 : Int) == f)
def moveK (p f : Int) (L : List Win) : Option Nat := L.findIdx? (isAt p f)
def lenAt (L : List Win) (k : Nat) : Int := ((L[k]?.getD (0, 0, 0)).2.2 : Nat)
def moveC (N : Nat) (L : List Win) (p f t : Int) : Int := match moveK p f L with
  | none => 2
  | some k => placeC N (L.eraseIdx k) p t (lenAt L k)
def moveL (N : Nat) (L : List Win) (p f t : Int) : List Win := match moveK p f L with
  | none => L
  | some k => if placeC N (L.eraseIdx k) p t (lenAt L k) = 0 then placeL N (L.eraseIdx k) p t (lenAt L k) else L

theorem split_at {L : List Win} {k : Nat} {x : Win} (hx : L[k]? = some x) : L = L.take k ++ x :: L.drop (k + 1) ∧ L.eraseIdx k = L.take k ++ L.drop (k + 1) := by
  refine ⟨?_, List.eraseIdx_eq_take_drop_succ _ _⟩
  have := drop_at hx
  rw [← this, List.take_append_drop]

theorem back_free {N : Nat} {L : List Win} (h : OkW N L) {k : Nat} {x : Win} (hx : L[k]? = some x) : ∀ i, i < x.2.2 → taken (L.eraseIdx k) (x.2.1 + i) = false := by
  obtain ⟨e1, e2⟩ := split_at hx
  intro i hi
  rw [e2]
  have := taken_drop (N := N) (A := L.take k) (B := L.drop (k + 1)) (x := x) (by rw [← e1]; exact h)
  rw [← this]
  unfold upR
  rw [if_pos (by omega)]

theorem back_code {N : Nat} {L : List Win} (h : OkW N L) {k : Nat} {x : Win} (hx : L[k]? = some x) : placeC N (L.eraseIdx k) x.1 x.2.1 x.2.2 = 0 := by
  have hm := h.1 x (List.mem_of_getElem? hx)
  unfold placeC
  rw [if_neg (by omega), if_neg]
  rw [Bool.not_eq_true, List.any_eq_false]
  intro i hi
  have := back_free h hx i (by simpa using hi)
  simpa using this

theorem back_list {N : Nat} {L : List Win} (h : OkW N L) {k : Nat} {x : Win} (hx : L[k]? = some x) : placeL N (L.eraseIdx k) x.1 x.2.1 x.2.2 = L := by
  unfold placeL
  rw [if_pos (back_code h hx)]
  have hm := h.1 x (List.mem_of_getElem? hx)
  obtain ⟨e1, e2⟩ := split_at hx
  symm
  refine ins_unique (x := ((x.1 : Int).toNat, (x.2.1 : Int).toNat, (x.2.2 : Int).toNat)) (h.sub (List.eraseIdx_sublist L k)) (by simp; omega) (by simpa using back_free h hx) ?_ ?_
  · have e : (((x.1 : Int).toNat, (x.2.1 : Int).toNat, (x.2.2 : Int).toNat) : Win) = x := rfl
    rw [e, e2]
    conv => lhs; rw [e1]
    rw [List.append_assoc]
    exact List.Perm.append_left _ (List.perm_append_singleton x _).symm
  · exact h.2.imp (fun h => by omega)

theorem OkW.moveL {N : Nat} {L : List Win} (h : OkW N L) (p f t : Int) : OkW N (moveL N L p f t) := by
  unfold Proofs.moveL
  split
  · exact h
  · split
    · exact (h.sub (List.eraseIdx_sublist _ _)).placeL _ _ _
    · exact h

theorem moveK_none {p f : Int} {L : List Win} (h : moveK p f L = none) : ∀ (j : Nat) (x : Win), L[j]? = some x → isAt p f x = false := by
  intro j x hx
  unfold moveK at h
  rw [List.findIdx?_eq_none_iff] at h
  exact h x (List.mem_of_getElem? hx)
theorem moveK_some {p f : Int} {L : List Win} {k : Nat} (h : moveK p f L = some k) : ∃ x, L[k]? = some x ∧ isAt p f x = true ∧ ∀ (j : Nat) (y : Win), j < k → L[j]? = some y → isAt p f y = false := by
  unfold moveK at h
  rw [List.findIdx?_eq_some_iff_getElem] at h
  obtain ⟨hk, h1, h2⟩ := h
  refine ⟨L[k], List.getElem?_eq_getElem hk, h1, fun j y hj hy => ?_⟩
  have := h2 j hj
  obtain ⟨hj', e⟩ := List.getElem?_eq_some_iff.1 hy
  rw [e] at this
  simpa using this

set_option maxHeartbeats 1000000 in
theorem Tryd.Move_none (F : Nat → Prop) (b N : Nat) (L : List Win) (p f t : Int) (w : World) (ht : Tab w F b N L) (hL : OkW N L) (hN : N ≤ 256) (hK : moveK p f L = none) :
    Calls Tryd.prog 13 #[.pointer (some ⟨b, 0, none⟩), .int .i64 p, .int .i64 f, .int .i64 t] w fun e w' => e = .returned (.int .i64 2) ∧ Below w.heap.size w w' := by
  obtain ⟨A, c, hT, hW, hb⟩ := ht
  have hsl : w.cell? ⟨b, 5, none⟩ = some (.slice A L.length c) := Blk.cell hT 5
  have hlen := hL.length
  have HK := hide (moveK_none hK)
  have HW := hide hW
  clear hK hT hW hL
  go_enter Tryd.func13, Tryd.ntmps13
  go_wp2
  go_step3
  go_wp2
  go_step3
  go_wp2
  go_loopw [9, 10, 11, 19] (fun at_ _ _ i wr => ∃ k : Nat, k ≤ L.length ∧ i = .int .i64 k ∧ at_ = .int .i64 (-1) ∧ Below w.heap.size w wr) (fun _ _ _ i _ => L.length - (intOf i).toNat)
  case atStart => exact ⟨0, Nat.zero_le _, rfl, rfl, Below.refl _ _⟩
  case round =>
    obtain ⟨k, hk, rfl, rfl, hB⟩ := hrel
    by_cases hlt : k < L.length
    · obtain ⟨g, rfl, hg, _, hcs⟩ := HW.out.at (by omega)
      obtain ⟨x, hx⟩ : ∃ x, L[k]? = some x := ⟨L[k], List.getElem?_eq_getElem hlt⟩
      obtain ⟨c0, c1, c2⟩ := hcs k x hx
      have d0 := (hB.cell (p := ⟨g, k * 3, none⟩) hg).trans c0
      have d1 := (hB.cell (p := ⟨g, k * 3 + 1, none⟩) hg).trans c1
      have d2 := (hB.cell (p := ⟨g, k * 3 + 2, none⟩) hg).trans c2
      have hno := HK.out k x hx
      have HB := hide hB
      clear hx hcs c0 c1 c2 hB
      unfold isAt at hno
      cases hp : ((x.1 : Int) == p) with
      | true =>
        rw [hp, Bool.true_and] at hno
        go_wp2
        go_roundw
        case rel => exact ⟨k + 1, hlt, by go_num, rfl, HB.out.alloc HB.out.size _⟩
        case measure => simp [intOf]; omega
      | false =>
        clear hno
        go_wp2
        go_roundw
        case rel => exact ⟨k + 1, hlt, by go_num, rfl, HB.out.alloc HB.out.size _⟩
        case measure => simp [intOf]; omega
    · obtain rfl : k = L.length := by omega
      have HB := hide hB
      clear hB
      go_wp2
      try rw [Exit.noGoto_ret]
      go_ret
      exact ⟨rfl, HB.out⟩

theorem move_mid {b N g c k nb : Nat} {w w1 w2 : World} {L : List Win} {S : Nat → Bool} {cs : Array Value} (hgb : g ≠ b) (hk : k < L.length) (hnb : nb ≠ b) (hng : nb ≠ g) (hF0 : Fr (fun j => j = b) w w1)
    (hT2 : TabX w1 b N S (.slice (some ⟨g, 0, none⟩) L.length c)) (hS : S = taken (L.eraseIdx k)) (hbox : Blk w1 nb 58 cs)
    (hown : w2.ownsRow 0 58 3 (.slice (some ⟨g, 0, none⟩) (L.length - 1) c) (L.length - 1) (rowW (L.eraseIdx k))) (hF2 : Fr (fun j => j = g) w1 w2) :
    Tab (w2.setCell ⟨b, 5, none⟩ (.slice (some ⟨g, 0, none⟩) (L.length - 1) c)) (fun j => j = b ∨ j = g) b N (L.eraseIdx k) ∧
    Fr (fun j => j = b ∨ j = g) w (w2.setCell ⟨b, 5, none⟩ (.slice (some ⟨g, 0, none⟩) (L.length - 1) c)) ∧ Blk (w2.setCell ⟨b, 5, none⟩ (.slice (some ⟨g, 0, none⟩) (L.length - 1) c)) nb 58 cs := by
  have hlen : (L.eraseIdx k).length = L.length - 1 := by rw [List.length_eraseIdx, if_pos hk]
  refine ⟨⟨some ⟨g, 0, none⟩, c, ?_, ⟨?_, fun a ha => by injection ha with ha; rw [← ha]; exact .inr rfl⟩, .inl rfl⟩, ?_, ?_⟩
  · rw [← hS, hlen]
    exact Blk.set (Blk.fr hT2 hF2 (fun h => hgb h.symm)) 5 _
  · rw [hlen]
    refine ⟨hown.1, ?_⟩
    rcases hown.2 with h0 | ⟨g', cap', cur, hv, hb, hg, r⟩
    · exact .inl h0
    · refine .inr ⟨g', cap', cur, hv, hb, ?_, r⟩
      injection hv with hv1
      injection hv1 with hv1
      injection hv1 with hv1
      subst hv1
      rw [Below.heap_setCell _ _ _ _ hgb]
      exact hg
  · exact ((hF0.mono (fun j _ h => .inl h)).trans (hF2.mono (fun j _ h => .inr h))).setCell (p := ⟨b, 5, none⟩) (fun _ => .inl rfl) _
  · exact (hbox.fr hF2 hng).far (p := ⟨b, 5, none⟩) hnb _

set_option maxHeartbeats 2000000 in
theorem Tryd.Move_some (F : Nat → Prop) (b N : Nat) (L : List Win) (p f t : Int) (k0 : Nat) (w : World) (ht : Tab w F b N L) (hL : OkW N L) (hN : N ≤ 256) (hK : moveK p f L = some k0) :
    Calls Tryd.prog 13 #[.pointer (some ⟨b, 0, none⟩), .int .i64 p, .int .i64 f, .int .i64 t] w fun e w' =>
      e = .returned (.int .i64 (placeC N (L.eraseIdx k0) p t (lenAt L k0))) ∧ Tab w' (New F w w') b N (moveL N L p f t) ∧ Fr F w w' := by
  obtain ⟨A, c, hT, hW, hb⟩ := ht
  obtain ⟨x0, hx0, hat0, hno0⟩ := moveK_some hK
  have hlt0 : k0 < L.length := (List.getElem?_eq_some_iff.1 hx0).1
  obtain ⟨hp0, hf0⟩ : p = x0.1 ∧ f = x0.2.1 := by
    unfold isAt at hat0
    simp only [Bool.and_eq_true, beq_iff_eq] at hat0
    exact ⟨hat0.1.symm, hat0.2.symm⟩
  have hlenAt : lenAt L k0 = x0.2.2 := by unfold lenAt; rw [hx0]; rfl
  have hsl : w.cell? ⟨b, 5, none⟩ = some (.slice A L.length c) := Blk.cell hT 5
  have hlen := hL.length
  have hm0 := (hL.1 x0 (List.mem_of_getElem? hx0)).2.2
  have hbw := Blk.lt hT
  have hne := wins_ne hT hW
  obtain ⟨g, rfl, hg, hFg, hcs⟩ := hW.at (by omega)
  obtain ⟨z0, z1, z2⟩ := hcs k0 x0 hx0
  have hgb : g ≠ b := hne _ rfl
  have hown := hW.1
  have hlist : moveL N L p f t = if placeC N (L.eraseIdx k0) p t (lenAt L k0) = 0 then placeL N (L.eraseIdx k0) p t (lenAt L k0) else L := by unfold moveL; rw [hK]
  have HK := hide hno0
  have HT := hide hT
  have HL := hide hL
  have Hown := hide hown
  have Hcs := hide hcs
  have Hx0 := hide hx0
  have Hlist := hide hlist
  have HlenAt := hide hlenAt
  have Hpf := hide (And.intro hp0 hf0)
  have Hat0 := hide hat0
  clear hK hT hW hL hno0 hown hcs hx0 hlist hlenAt hp0 hf0 hat0 hne z0 z1 z2
  go_enter Tryd.func13, Tryd.ntmps13
  go_wp2
  go_step3
  go_wp2
  go_step3
  go_wp2
  go_loopw [9, 10, 11, 19] (fun at_ _ _ i wr => ∃ k : Nat, k ≤ k0 ∧ i = .int .i64 k ∧ at_ = .int .i64 (-1) ∧ Below w.heap.size w wr) (fun _ _ _ i _ => L.length - (intOf i).toNat)
  case atStart => exact ⟨0, Nat.zero_le _, rfl, rfl, Below.refl _ _⟩
  case round =>
    obtain ⟨k, hk, rfl, rfl, hB⟩ := hrel
    have hlt : k < L.length := by omega
    obtain ⟨x, hx⟩ : ∃ x, L[k]? = some x := ⟨L[k], List.getElem?_eq_getElem hlt⟩
    obtain ⟨c0, c1, c2⟩ := Hcs.out k x hx
    have d0 := (hB.cell (p := ⟨g, k * 3, none⟩) hg).trans c0
    have d1 := (hB.cell (p := ⟨g, k * 3 + 1, none⟩) hg).trans c1
    have d2 := (hB.cell (p := ⟨g, k * 3 + 2, none⟩) hg).trans c2
    by_cases hkk : k < k0
    · have hno := HK.out k x hkk hx
      have HB := hide hB
      clear hx c0 c1 c2 hB
      unfold isAt at hno
      cases hp : ((x.1 : Int) == p) with
      | true =>
        rw [hp, Bool.true_and] at hno
        go_wp2
        go_roundw
        case rel => exact ⟨k + 1, hkk, by go_num, rfl, HB.out.alloc HB.out.size _⟩
        case measure => simp [intOf]; omega
      | false =>
        clear hno
        go_wp2
        go_roundw
        case rel => exact ⟨k + 1, hkk, by go_num, rfl, HB.out.alloc HB.out.size _⟩
        case measure => simp [intOf]; omega
    · obtain rfl : k = k0 := by omega
      have hxx : x0 = x := by have := Hx0.out; rw [hx] at this; injection this with this; exact this.symm
      subst hxx
      have hyes := Hat0.out
      unfold isAt at hyes
      simp only [Bool.and_eq_true] at hyes
      obtain ⟨hy1, hy2⟩ := hyes
      have e5 : wr.cell? ⟨b, 5, none⟩ = some (.slice (some ⟨g, 0, none⟩) L.length c) := (hB.cell (p := ⟨b, 5, none⟩) hbw).trans hsl
      have hbr : b < wr.heap.size := Nat.lt_of_lt_of_le hbw hB.size
      have hgr : g < wr.heap.size := Nat.lt_of_lt_of_le hg hB.size
      have HT1 : Hid (TabX wr b N (taken L) (.slice (some ⟨g, 0, none⟩) L.length c)) := (hB.block b hbw).trans HT.out
      have HB := hide hB
      clear hx c0 c1 c2 hB hsl
      go_wp2_with fail
      refine (Tryd.mark_in b N _ _ _ _ _ false _ (Nat.le_trans hm0 hN) (TabX.alloc (TabX.alloc HT1.out _) _)).mono ?_
      rintro e w1 ⟨rfl, hT2, hF1⟩
      obtain ⟨W0, hW0⟩ : ∃ W0, W0 = (wr.alloc (.cells #[.int .i64 x0.1, .int .i64 x0.2.1, .int .i64 x0.2.2] 58)).alloc (.cells #[.int .i64 x0.1, .int .i64 x0.2.1, .int .i64 x0.2.2] 58) := ⟨_, rfl⟩
      rw [← hW0] at hF1
      have hBW : Below w.heap.size w W0 := by rw [hW0]; exact (HB.out.alloc HB.out.size _).alloc (by have := HB.out.size; simp; omega) _
      have hszW : W0.heap.size = wr.heap.size + 1 + 1 := by rw [hW0]; simp
      have hbox : Blk W0 (wr.heap.size + 1) 58 #[.int .i64 x0.1, .int .i64 x0.2.1, .int .i64 x0.2.2] := by
        rw [hW0]
        have := Blk.new (wr.alloc (.cells #[.int .i64 x0.1, .int .i64 x0.2.1, .int .i64 x0.2.2] 58)) 58 #[.int .i64 x0.1, .int .i64 x0.2.1, .int .i64 x0.2.2]
        rwa [World.size_alloc] at this
      have hbox1 := hbox.fr hF1 (by omega)
      have hown1 : w1.ownsRow 0 58 3 (.slice (some ⟨g, 0, none⟩) L.length c) L.length (rowW L) :=
        ((show WinsAt w (fun j => j = g) (some ⟨g, 0, none⟩) c L from ⟨Hown.out, fun a ha => by injection ha with ha; rw [← ha]⟩).keep (w' := w1) (fun j hj hjg => by
          subst hjg
          exact (hF1.block j (by have := hBW.size; omega) hgb).trans (hBW.block j hj))).1
      have hcode : upR (taken L) x0.2.1 x0.2.2 false = taken (L.eraseIdx k) := by
        obtain ⟨e1, e2⟩ := split_at Hx0.out
        rw [e2]
        conv => lhs; rw [e1]
        exact taken_drop (by rw [← e1]; exact HL.out)
      have g5 : w1.cell? ⟨b, 5, none⟩ = some (.slice (some ⟨g, 0, none⟩) L.length c) := Blk.cell hT2 5
      have hF0 : Fr (fun j => j = b) w w1 := ((Fr.refl (fun j => j = b) w).trans (Fr.of_grown hBW)).trans hF1
      have HT2 := hide hT2
      have Hown1 := hide hown1
      have Hbox := hide hbox1
      have Hcode := hide hcode
      have HF0 := hide hF0
      have hsz1 : wr.heap.size + 1 < w1.heap.size := by have := hF1.size; omega
      clear hT2 hF1 hW0 hBW hszW hbox hbox1 hown1 hcode hF0 e5 d0 d1 d2
      go_wp2_with fail
      refine (Tryd.Delete_in g L.length c k L w1 Hown1.out rfl hlt (by omega)).mono ?_
      rintro e w2 ⟨rfl, hown2, hF2⟩
      obtain ⟨hT3, hF3, hbox3⟩ := move_mid (nb := wr.heap.size + 1) hgb hlt (by omega) (by omega) HF0.out HT2.out Hcode.out Hbox.out hown2 hF2
      have g5 : w2.cell? ⟨b, 5, none⟩ = some (.slice (some ⟨g, 0, none⟩) L.length c) := Blk.cell (Blk.fr HT2.out hF2 (fun h => hgb h.symm)) 5
      have gf5 := Blk.frozen (Blk.fr HT2.out hF2 (fun h => hgb h.symm)) 5
      have x2 := hbox3.cell 2
      have HT3 := hide hT3
      have HF3 := hide hF3
      have Hbox3 := hide hbox3
      clear hT3 hF3 hbox3 hown2 hF2
      go_wp2_with fail
      obtain ⟨W3, hW3⟩ : ∃ W3, W3 = w2.setCell ⟨b, 5, none⟩ (.slice (some ⟨g, 0, none⟩) (L.length - 1) c) := ⟨_, rfl⟩
      rw [← hW3] at HT3 HF3 Hbox3 x2 ⊢
      have HW3 := hide hW3
      clear hW3 g5 gf5
      have hokE := HL.out.sub (List.eraseIdx_sublist L k)
      refine (Tryd.Place_any _ b N (L.eraseIdx k) p t x0.2.2 W3 HT3.out hokE hN).mono ?_
      rintro e w4 ⟨rfl, hT4, hF4⟩
      have hszb := Hbox3.out.lt
      have hbox4 := Hbox3.out.fr hF4 (by omega)
      have y2 := hbox4.cell 2
      have HC : Hid (placeC N (L.eraseIdx k) p t x0.2.2 = placeC N (L.eraseIdx k) p t (lenAt L k)) := by rw [HlenAt.out]; exact rfl
      have HT4 := hide hT4
      have HF4 := hide hF4
      have hOk4 := hide (hokE.placeL p t x0.2.2)
      have hF04 : Hid (Fr F w w4) := ((HF3.out.mono (G := F) (fun j _ h => h.elim (fun h => by rw [h]; exact hb) (fun h => by rw [h]; exact hFg))).trans_new HF4.out (fun j _ h => h.elim (fun h => by rw [h]; exact hb) (fun h => by rw [h]; exact hFg)))
      have hnew : ∀ w5, w4.heap.size ≤ w5.heap.size → ∀ j, New (fun j => j = b ∨ j = g) W3 w5 j → New F w w5 j := by
        rintro w5 hs j (h | h)
        · exact .inl (h.elim (fun h => by rw [h]; exact hb) (fun h => by rw [h]; exact hFg))
        · exact .inr ⟨Nat.le_trans HF3.out.size h.1, h.2⟩
      have Hnew := hide hnew
      clear hT4 hF4 hbox4 hnew hokE x2
      by_cases hz : placeC N (L.eraseIdx k) p t x0.2.2 = 0
      · have hzb : (placeC N (L.eraseIdx k) p t x0.2.2 != 0) = false := by simpa using hz
        have Hz := hide hz
        clear hz
        generalize placeC N (L.eraseIdx k) p t x0.2.2 = C at *
        go_wp2
        try rw [Exit.noGoto_ret]
        go_ret
        refine ⟨ret_int HC.out, ?_, hF04.out⟩
        rw [Hlist.out, ← HC.out, if_pos Hz.out, HlenAt.out]
        exact HT4.out.mono (fun j _ h => Hnew.out w4 (Nat.le_refl _) j h)
      · have hzb : (placeC N (L.eraseIdx k) p t x0.2.2 != 0) = true := by simpa using hz
        have Hz := hide hz
        have hsame : placeL N (L.eraseIdx k) p t x0.2.2 = L.eraseIdx k := by unfold placeL; rw [if_neg hz]
        rw [hsame] at HT4 hOk4
        clear hz hsame
        generalize placeC N (L.eraseIdx k) p t x0.2.2 = C at *
        go_wp2_with fail
        refine (Tryd.Place_any _ b N (L.eraseIdx k) p f x0.2.2 w4 HT4.out hOk4.out hN).mono ?_
        rintro e w5 ⟨rfl, hT5, hF5⟩
        obtain ⟨hp', hf'⟩ := Hpf.out
        have e5 : placeL N (L.eraseIdx k) p f x0.2.2 = L := by rw [hp', hf']; exact back_list HL.out Hx0.out
        rw [e5] at hT5
        have HT5 := hide hT5
        have HF5 := hide hF5
        clear hT5 hF5 e5 hp' hf'
        go_wp2
        try rw [Exit.noGoto_ret]
        go_ret
        refine ⟨ret_int HC.out, ?_, ?_⟩
        · rw [Hlist.out, ← HC.out, if_neg Hz.out]
          refine HT5.out.mono (fun j hj h => ?_)
          rcases h with h | h
          · rcases Hnew.out w4 (Nat.le_refl _) j h with h' | h'
            · exact .inl h'
            · exact .inr ⟨h'.1, Nat.lt_of_lt_of_le h'.2 HF5.out.size⟩
          · exact .inr ⟨Nat.le_trans hF04.out.size h.1, h.2⟩
        · refine hF04.out.trans_new HF5.out (fun j hj h => ?_)
          rcases h with h | h
          · exact h.elim (fun h => by rw [h]; exact hb) (fun h => by rw [h]; exact hFg)
          · exact absurd (Nat.le_trans HF3.out.size h.1) (by omega)

theorem Tryd.Move_any (F : Nat → Prop) (b N : Nat) (L : List Win) (p f t : Int) (w : World) (ht : Tab w F b N L) (hL : OkW N L) (hN : N ≤ 256) :
    Calls Tryd.prog 13 #[.pointer (some ⟨b, 0, none⟩), .int .i64 p, .int .i64 f, .int .i64 t] w fun e w' =>
      e = .returned (.int .i64 (moveC N L p f t)) ∧ Tab w' (New F w w') b N (moveL N L p f t) ∧ Fr F w w' := by
  cases hK : moveK p f L with
  | none =>
    have e1 : moveC N L p f t = 2 := by unfold moveC; rw [hK]
    have e2 : moveL N L p f t = L := by unfold moveL; rw [hK]
    rw [e1, e2]
    refine (Tryd.Move_none F b N L p f t w ht hL hN hK).mono ?_
    rintro e w' ⟨rfl, hB⟩
    exact ⟨rfl, (ht.below hB).new, Fr.of_grown hB⟩
  | some k =>
    have e1 : moveC N L p f t = placeC N (L.eraseIdx k) p t (lenAt L k) := by unfold moveC; rw [hK]
    rw [e1]
    exact Tryd.Move_some F b N L p f t k w ht hL hN hK

theorem Tryd.Move_st {w0 w : World} {b N : Nat} {L : List Win} (h : St w0 w b N L) (p f t : Int) :
    Calls Tryd.prog 13 #[.pointer (some ⟨b, 0, none⟩), .int .i64 p, .int .i64 f, .int .i64 t] w fun e w' =>
      e = .returned (.int .i64 (moveC N L p f t)) ∧ St w0 w' b N (moveL N L p f t) := by
  refine (Tryd.Move_any _ b N L p f t w h.tab h.ok h.n).mono ?_
  rintro e w' ⟨rfl, hT, hF⟩
  exact ⟨rfl, h.next hT hF (h.ok.moveL p f t)⟩
end Go.Proofs
