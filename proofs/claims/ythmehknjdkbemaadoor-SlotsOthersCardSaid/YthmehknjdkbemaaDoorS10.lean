/- The contract of slots.Remove. -/
import Derived.Test.YthmehknjdkbemaaDoorS9
import Derived.OwnWalk
namespace Go.Proofs
open Go.RowKit Go.Tr

def keepP (p : Int) (L : List Win) : List Win := L.filter fun x => (x.1 : Int) != p
def goneP (p : Int) (L : List Win) : Nat := (L.filter fun x => (x.1 : Int) == p).length
/-- behind k rounds: what stays of the first k, and all others -/
def midP (p : Int) (L : List Win) (k : Nat) : List Win := keepP p (L.take k) ++ L.drop k

theorem take_at {L : List Win} {k : Nat} {x : Win} (hx : L[k]? = some x) : L.take (k + 1) = L.take k ++ [x] := by
  rw [List.take_add_one, hx]; rfl
theorem drop_at {L : List Win} {k : Nat} {x : Win} (hx : L[k]? = some x) : L.drop k = x :: L.drop (k + 1) := by
  obtain ⟨h, e⟩ := List.getElem?_eq_some_iff.1 hx
  rw [List.drop_eq_getElem_cons h, e]
theorem midP_keep {p : Int} {L : List Win} {k : Nat} {x : Win} (hx : L[k]? = some x) (h : ((x.1 : Int) != p) = true) : midP p L (k + 1) = midP p L k ∧ keepP p (L.take (k + 1)) = keepP p (L.take k) ++ [x] ∧ goneP p (L.take (k + 1)) = goneP p (L.take k) := by
  have h' : ((x.1 : Int) == p) = false := by simpa using h
  refine ⟨?_, ?_, ?_⟩
  · unfold midP keepP
    rw [take_at hx, drop_at hx, List.filter_append]
    simp [h]
  · unfold keepP; rw [take_at hx, List.filter_append]; simp [h]
  · unfold goneP; rw [take_at hx, List.filter_append]; simp [h']
theorem midP_gone {p : Int} {L : List Win} {k : Nat} {x : Win} (hx : L[k]? = some x) (h : ((x.1 : Int) != p) = false) : midP p L k = keepP p (L.take k) ++ x :: L.drop (k + 1) ∧ midP p L (k + 1) = keepP p (L.take k) ++ L.drop (k + 1) ∧ keepP p (L.take (k + 1)) = keepP p (L.take k) ∧ goneP p (L.take (k + 1)) = goneP p (L.take k) + 1 := by
  have h' : ((x.1 : Int) == p) = true := by simpa using h
  have e : keepP p (L.take (k + 1)) = keepP p (L.take k) := by unfold keepP; rw [take_at hx, List.filter_append]; simp [h]
  refine ⟨by unfold midP; rw [drop_at hx], by unfold midP; rw [e], e, ?_⟩
  unfold goneP; rw [take_at hx, List.filter_append]; simp [h']

theorem OkW.sub {N : Nat} {L L' : List Win} (h : OkW N L) (hs : L'.Sublist L) : OkW N L' := ⟨fun x hx => h.1 x (hs.subset hx), h.2.sublist hs⟩
theorem midP_sub (p : Int) (L : List Win) (k : Nat) : (midP p L k).Sublist L := by
  unfold midP keepP
  have := (List.filter_sublist (p := fun x : Win => (x.1 : Int) != p) (l := L.take k)).append (List.Sublist.refl (L.drop k))
  rwa [List.take_append_drop] at this

/-- a window that is let go -/
theorem taken_drop {N : Nat} {A B : List Win} {x : Win} (h : OkW N (A ++ x :: B)) : upR (taken (A ++ x :: B)) x.2.1 x.2.2 false = taken (A ++ B) := by
  have hp := h.2
  rw [List.pairwise_append] at hp
  obtain ⟨_, hp2, hp3⟩ := hp
  rw [List.pairwise_cons] at hp2
  funext k
  unfold upR
  by_cases hk : x.2.1 ≤ k ∧ k < x.2.1 + x.2.2
  · rw [if_pos hk]
    symm
    unfold taken
    rw [List.any_eq_false]
    intro y hy
    rcases List.mem_append.1 hy with hy | hy
    · have := hp3 y hy x (by simp)
      simp [inW]; omega
    · have := hp2.1 y hy
      simp [inW]; omega
  · rw [if_neg hk]
    unfold taken
    have : inW x k = false := by
      unfold inW
      rw [Bool.eq_false_iff]
      intro hh
      simp at hh
      exact hk hh
    simp [this]

theorem wins_ne {w : World} {F : Nat → Prop} {b N c : Nat} {S : Nat → Bool} {sl : Value} {A : Option Addr} {L : List Win} (hT : TabX w b N S sl) (hW : WinsAt w F A c L) : ∀ a, A = some a → a.block ≠ b := by
  intro a ha hab
  rcases hW.1.2 with ⟨h0, _⟩ | ⟨g, cap, cur, hv, _, hg, _⟩
  · injection h0 with h0; rw [ha] at h0; cases h0
  · injection hv with hv1
    rw [ha] at hv1
    injection hv1 with hv1
    rw [hv1] at hab
    exact Blk.ne (t := 58) (t' := 56) hg hT (by decide) hab

theorem own_zero {w : World} {base n size : Nat} {v : Value} {xs : List Value} {E : TypeId} (h : w.ownsRow base E size v n xs) : w.ownsRow 0 E size v n xs := by
  refine ⟨h.1, ?_⟩
  rcases h.2 with h0 | ⟨g, cap, cur, hv, hb, r⟩
  · exact .inl h0
  · exact .inr ⟨g, cap, cur, hv, Nat.zero_le _, r⟩
theorem own_lt {w : World} {base n m c size : Nat} {a : Addr} {xs : List Value} {E : TypeId} (h : w.ownsRow base E size (.slice (some a) m c) n xs) : base ≤ a.block ∧ a.block < w.heap.size := h.lt a.block rfl

theorem rem_step {w wr w2 : World} {b N n : Nat} {S : Nat → Bool} {sl v : Value} {xs : List Value} {E : TypeId} {o o' : Obj} (hF : Fr (fun j => j = b) w wr) (ho : wr.ownsRow w.heap.size E 3 v n xs)
    (hg : World.grownBy ((wr.alloc o).alloc o') w2 v.ownBlock) (hT : TabX wr b N S sl) (hbw : b < w.heap.size) : TabX w2 b N S sl ∧ Fr (fun j => j = b) w w2 := by
  have hr := ho.lt
  refine ⟨?_, ?_⟩
  · have := hF.size
    exact (hg.block b (by simp; omega) (fun e => by have := (hr b e.symm).1; omega)).trans (Blk.alloc (Blk.alloc hT o) o')
  · exact ((hF.alloc o).alloc o').trans_new (Fr.of_grownBy hg (F := fun j => v.ownBlock = some j) (fun k h _ => h)) (fun k hk h => by have := (hr k h).1; omega)

set_option maxHeartbeats 1000000 in
theorem Tryd.Remove_in (F : Nat → Prop) (b N : Nat) (L : List Win) (p : Int) (w : World) (ht : Tab w F b N L) (hL : OkW N L) (hN : N ≤ 256) :
    Calls Tryd.prog 15 #[.pointer (some ⟨b, 0, none⟩), .int .i64 p] w fun e w' =>
      e = .returned (.int .i64 (goneP p L)) ∧ Tab w' (New F w w') b N (keepP p L) ∧ Fr F w w' := by
  obtain ⟨A, c, hT, hW, hb⟩ := ht
  have hsl : w.cell? ⟨b, 5, none⟩ = some (.slice A L.length c) := Blk.cell hT 5
  have hbw := Blk.lt hT
  have hlen := hL.length
  obtain ⟨i0, hi, hz0, hz1, hz2⟩ := info_parts Tryd.infoW
  have Hi : Hid (Tryd.prog.info? 58 = some i0 ∧ i0.zero = some (.agg #[.int .i64 0, .int .i64 0, .int .i64 0]) ∧ i0.size = 3 ∧ i0.bytes = 24) := ⟨hi, hz0, hz1, hz2⟩
  have HT := hide hT
  have HW := hide hW
  have HL := hide hL
  clear hi hz0 hz1 hz2 hT hW hL
  go_enter Tryd.func15, Tryd.ntmps15
  go_wp2
  go_loopw [5, 6, 8, 14] (fun n v _ i wr => ∃ (k : Nat) (A' : Option Addr) (c' : Nat), k ≤ L.length ∧ i = .int .i64 k ∧ n = .int .i64 (goneP p (L.take k)) ∧ v = .slice A' (keepP p (L.take k)).length c' ∧
      TabX wr b N (taken (midP p L k)) (.slice A L.length c) ∧ wr.ownsRow w.heap.size 58 3 (.slice A' (keepP p (L.take k)).length c') (keepP p (L.take k)).length (rowW (keepP p (L.take k))) ∧ Fr (fun j => j = b) w wr)
    (fun _ _ _ i _ => L.length - (intOf i).toNat)
  case atStart => exact ⟨0, none, 0, Nat.zero_le _, rfl, rfl, rfl, HT.out, World.ownsRow_nil _ _ _ _, Fr.refl _ _⟩
  case round =>
    obtain ⟨k, A', c', hk, rfl, rfl, rfl, hT, hown, hF⟩ := hrel
    by_cases hlt : k < L.length
    · have hW1 : WinsAt wr (fun j => j ≠ b) A c L := (show WinsAt w (fun j => j ≠ b) A c L from ⟨HW.out.1, wins_ne HT.out HW.out⟩).keep (fun j hj hne => hF.block j hj hne)
      obtain ⟨g, rfl, hg, hgb, hcs⟩ := hW1.at (by omega)
      obtain ⟨x, hx⟩ : ∃ x, L[k]? = some x := ⟨L[k], List.getElem?_eq_getElem hlt⟩
      obtain ⟨c0, c1, c2⟩ := hcs k x hx
      have HT1 := hide hT
      have Ho := hide hown
      have HF := hide hF
      have hkl : (keepP p (L.take k)).length ≤ k := by
        unfold keepP
        exact Nat.le_trans (List.length_filter_le _ _) (by simp; omega)
      have hsz : w.heap.size ≤ wr.heap.size := hF.size
      cases hq : ((x.1 : Int) != p) with
      | true =>
        obtain ⟨m1, m2, m3⟩ := midP_keep hx hq
        have M1 := hide m1
        have M2 := hide m2
        have M3 := hide m3
        clear hT hown hF hx hcs hW1 m1 m2 m3
        obtain ⟨hi, hz0, hz1, hz2⟩ := Hi.out
        have Hi1 := hide hi
        have Hi2 := hide hz0
        have Hi3 := hide hz1
        have Hi4 := hide hz2
        clear hi hz0 hz1 hz2
        generalize keepP p (L.take k) = K at *
        go_wp2_with (at_builtin; refine wpList_append_lies _ rfl (.tmp 22) (.tmp 24) 54 rfl w.heap.size 58 i0 (.agg #[.int .i64 0, .int .i64 0, .int .i64 0]) 3 24 Tryd.underlying54 Hi1.out Hi2.out Hi3.out Hi4.out rfl (by decide) (.slice A' K.length c') K.length (rowW K) rfl (World.ownsRow.alloc (World.ownsRow.alloc Ho.out _) _) ⟨wr.heap.size + 1, 0, none⟩ 1 1 [.int .i64 x.1, .int .i64 x.2.1, .int .i64 x.2.2] rfl rfl (World.news_of_block (B := wr.heap.size + 1) (by have := heap_alloc_new (wr.alloc (.cells #[.int .i64 x.1, .int .i64 x.2.1, .int .i64 x.2.2] 58)) (.cells #[.int .i64 x.1, .int .i64 x.2.1, .int .i64 x.2.2] 58); rwa [World.size_alloc] at this)) (by intro u hu; simp at hu; rcases hu with rfl | rfl | rfl <;> rfl) (by omega) (by unfold maxLen; omega) (by omega) (by simp; omega) _ rfl ?_; intro g2 cap w2 hown2 hgrow hat hlt2)
        go_roundw
        case rel =>
          obtain ⟨t1, t2⟩ := rem_step HF.out Ho.out hgrow HT1.out hbw
          refine ⟨k + 1, some ⟨g2, 0, none⟩, cap, hlt, by go_num, by rw [M3.out], by rw [M2.out]; simp, by rw [M1.out]; exact t1, ?_, t2⟩
          rw [M2.out, ← rowW_snoc]
          simpa using hown2
        case measure => simp [intOf]; omega
      | false =>
        obtain ⟨m0, m1, m2, m3⟩ := midP_gone hx hq
        have hxx := (HL.out.1 x (List.mem_of_getElem? hx)).2.2
        have M0 := hide m0
        have M1 := hide m1
        have M2 := hide m2
        have M3 := hide m3
        have Hxx := hide hxx
        clear hT hown hF hx hcs hW1 m0 m1 m2 m3 hxx
        have hgo : goneP p (L.take k) ≤ 256 := by
          unfold goneP
          exact Nat.le_trans (List.length_filter_le _ _) (by simp; omega)
        go_wp2_with (go_at_call 27; refine (Tryd.mark_in b N _ _ _ _ _ false _ (Nat.le_trans Hxx.out hN) (TabX.alloc HT1.out _)).mono ?_; rintro e w1 ⟨rfl, hT1, hF1⟩)
        go_roundw
        case rel =>
          refine ⟨k + 1, A', c', hlt, by go_num, by rw [M3.out]; go_num, by rw [M2.out], ?_, ?_, ?_⟩
          · have e := taken_drop (N := N) (x := x) (A := keepP p (L.take k)) (B := L.drop (k + 1)) (by rw [← M0.out]; exact HL.out.sub (midP_sub p L k))
            rw [M1.out, ← e, ← M0.out]
            exact hT1
          · rw [M2.out]
            have hr := Ho.out.lt
            refine (World.ownsRow.alloc Ho.out _).kept (row := some b) ⟨hF1.os, hF1.tape, hF1.output, hF1.size, fun j hj hne => hF1.block j hj (fun e => hne (by rw [e]))⟩ (.inr (fun e => by have := (hr b e).1; omega))
          · exact (HF.out.alloc _).trans hF1
        case measure => simp [intOf]; omega
    · obtain rfl : k = L.length := by omega
      have e1 : midP p L L.length = keepP p L := by unfold midP; simp
      rw [List.take_length] at *
      rw [e1] at hT
      have h5 : wr.cell? ⟨b, 5, none⟩ = some (.slice A L.length c) := Blk.cell hT 5
      have hf5 := Blk.frozen hT 5
      have HT1 := hide hT
      have Ho := hide hown
      have HF := hide hF
      clear hT hown hF e1
      go_wp2
      go_ret
      refine ⟨rfl, ?_, ?_⟩
      · refine ⟨A', c', Blk.set HT1.out 5 _, ⟨?_, ?_⟩, .inl hb⟩
        · exact own_zero (ownsRow_setCell_below Ho.out (a := ⟨b, 5, none⟩) hbw _)
        · rintro a rfl
          have := own_lt Ho.out
          exact .inr ⟨this.1, by simpa [World.setCell] using this.2⟩
      · exact (HF.out.mono (fun j _ h => by rw [h]; exact hb)).setCell (p := ⟨b, 5, none⟩) (fun _ => hb) _
end Go.Proofs
