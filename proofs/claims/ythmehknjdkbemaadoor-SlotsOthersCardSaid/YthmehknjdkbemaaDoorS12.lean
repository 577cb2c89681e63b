/- One table among what the call itself has made; the contract of the law's awake. -/
import Derived.Test.YthmehknjdkbemaaDoorS11
namespace Go.Proofs
open Go.RowKit Go.Tr

/-- since the call began in w0: a table of its own; nothing that was there has turned -/
structure St (w0 w : World) (b N : Nat) (L : List Win) : Prop where
  tab : Tab w (fun k => w0.heap.size ≤ k) b N L
  below : Below w0.heap.size w0 w
  ok : OkW N L
  n : N ≤ 256
  tbl : Tbl w0

theorem St.tblw {w0 w : World} {b N : Nat} {L : List Win} (h : St w0 w b N L) : Tbl w := h.tbl.below h.below h.tbl.pos
theorem St.next {w0 w w' : World} {b N : Nat} {L L' : List Win} (h : St w0 w b N L) (hT : Tab w' (New (fun k => w0.heap.size ≤ k) w w') b N L') (hF : Fr (fun k => w0.heap.size ≤ k) w w') (hok : OkW N L') : St w0 w' b N L' :=
  ⟨hT.mono (fun k _ hk => hk.elim id fun h2 => Nat.le_trans h.below.size h2.1), h.below.trans (hF.below h.below.size (fun k hk => by omega)), hok, h.n, h.tbl⟩
theorem St.drew {w0 w : World} {b N : Nat} {L : List Win} (h : St w0 w b N L) : St w0 w.drew b N L := ⟨h.tab, h.below.drew, h.ok, h.n, h.tbl⟩

theorem Tryd.New_st (n : Nat) (w0 w : World) (h1 : 1 ≤ n) (h2 : n ≤ 256) (hb : Below w0.heap.size w0 w) (hT : Tbl w0) :
    Calls Tryd.prog 9 #[.int .i64 n] w fun e w' => e = .returned (.tuple #[.pointer (some ⟨w.heap.size, 0, none⟩), .int .i64 0]) ∧ St w0 w' w.heap.size n [] := by
  refine (Tryd.New_yes n w h1 h2).mono ?_
  rintro e w' ⟨rfl, hT', hF⟩
  exact ⟨rfl, hT'.mono (fun k _ h => by rw [h]; exact hb.size), hb.trans (hF.below hb.size (fun _ _ h => h)), ⟨(fun x hx => by cases hx), List.Pairwise.nil⟩, h2, hT⟩

theorem Tryd.Place_st {w0 w : World} {b N : Nat} {L : List Win} (h : St w0 w b N L) (p f m : Int) :
    Calls Tryd.prog 10 #[.pointer (some ⟨b, 0, none⟩), .int .i64 p, .int .i64 f, .int .i64 m] w fun e w' =>
      e = .returned (.int .i64 (placeC N L p f m)) ∧ St w0 w' b N (placeL N L p f m) := by
  refine (Tryd.Place_any _ b N L p f m w h.tab h.ok h.n).mono ?_
  rintro e w' ⟨rfl, hT, hF⟩
  exact ⟨rfl, h.next hT hF (h.ok.placeL p f m)⟩
theorem Tryd.Insert_st {w0 w : World} {b N : Nat} {L : List Win} (h : St w0 w b N L) (p m : Int) (hm : m ≤ 9223372036854775807) :
    Calls Tryd.prog 12 #[.pointer (some ⟨b, 0, none⟩), .int .i64 p, .int .i64 m] w fun e w' =>
      e = .returned (.tuple #[.int .i64 (insC N L p m).1, .int .i64 (insC N L p m).2]) ∧ St w0 w' b N (insL N L p m) := by
  refine (Tryd.Insert_any _ b N L p m w h.tab h.tblw h.ok h.n hm).mono ?_
  rintro e w' ⟨rfl, hT, hF⟩
  exact ⟨rfl, h.next hT hF (h.ok.insL p m)⟩
theorem Tryd.Remove_st {w0 w : World} {b N : Nat} {L : List Win} (h : St w0 w b N L) (p : Int) :
    Calls Tryd.prog 15 #[.pointer (some ⟨b, 0, none⟩), .int .i64 p] w fun e w' =>
      e = .returned (.int .i64 (goneP p L)) ∧ St w0 w' b N (keepP p L) := by
  refine (Tryd.Remove_in _ b N L p w h.tab h.ok h.n).mono ?_
  rintro e w' ⟨rfl, hT, hF⟩
  exact ⟨rfl, h.next hT hF (h.ok.sub List.filter_sublist)⟩
theorem Tryd.At_st {w0 w : World} {b N : Nat} {L : List Win} (h : St w0 w b N L) (t : Int) :
    Calls Tryd.prog 11 #[.pointer (some ⟨b, 0, none⟩), .int .i64 t] w fun e w' => e = .returned (.int .i64 (atL L t)) ∧ St w0 w' b N L := by
  have hN := h.n
  refine (Tryd.At_in _ b N L t w h.tab (by have := h.ok.length; omega) (fun j x hx => by have := (h.ok.1 x (List.mem_of_getElem? hx)).2.2; omega)).mono ?_
  rintro e w' ⟨rfl, hB⟩
  exact ⟨rfl, h.tab.below hB, h.below.trans (hB.mono h.below.size), h.ok, h.n, h.tbl⟩

set_option maxHeartbeats 1000000 in
theorem Tryd.awake_in (w : World) (hTb : Tbl w) :
    Calls Tryd.prog 8 #[] w fun e w' => e = .returned (.bool true) ∧ Below w.heap.size w w' := by
  have HTb := hide hTb
  clear hTb
  go_enter Tryd.func8, Tryd.ntmps8
  go_wp2_with fail
  refine (Tryd.New_st 10 w _ (by omega) (by omega) (Below.refl _ _) HTb.out).mono ?_
  rintro e w1 ⟨rfl, h1⟩
  go_wp2_with fail
  have c1 := Tryd.Insert_st h1 1 4 (by omega)
  rw [show insC 10 [] 1 4 = (0, 0) by decide, show insL 10 [] 1 4 = [(1, 0, 4)] by decide] at c1
  refine c1.mono ?_
  clear c1 h1
  rintro e w2 ⟨rfl, h2⟩
  go_wp2_with fail
  have c2 := Tryd.Insert_st h2 2 4 (by omega)
  rw [show insC 10 [(1, 0, 4)] 2 4 = (4, 0) by decide, show insL 10 [(1, 0, 4)] 2 4 = [(1, 0, 4), (2, 4, 4)] by decide] at c2
  refine c2.mono ?_
  clear c2 h2
  rintro e w3 ⟨rfl, h3⟩
  go_wp2_with fail
  have c3 := Tryd.Remove_st h3 1
  rw [show goneP 1 [(1, 0, 4), (2, 4, 4)] = 1 by decide, show keepP 1 [(1, 0, 4), (2, 4, 4)] = [(2, 4, 4)] by decide] at c3
  refine c3.mono ?_
  clear c3 h3
  rintro e w4 ⟨rfl, h4⟩
  go_wp2_with fail
  have c4 := Tryd.Insert_st h4 3 5 (by omega)
  rw [show insC 10 [(2, 4, 4)] 3 5 = (0, 8) by decide, show insL 10 [(2, 4, 4)] 3 5 = [(2, 4, 4)] by decide] at c4
  refine c4.mono ?_
  clear c4 h4
  rintro e w5 ⟨rfl, h5⟩
  go_wp2_with fail
  have c5 := Tryd.At_st h5 5
  rw [show atL [(2, 4, 4)] 5 = 2 by decide] at c5
  refine c5.mono ?_
  clear c5 h5
  rintro e w6 ⟨rfl, h6⟩
  go_wp2_with fail
  have c6 := Tryd.At_st h6 0
  rw [show atL [(2, 4, 4)] 0 = -1 by decide] at c6
  refine c6.mono ?_
  clear c6 h6
  rintro e w7 ⟨rfl, h7⟩
  go_wp2
  go_ret
  exact ⟨rfl, h7.below⟩
end Go.Proofs
