/- The law SlotsBack: its walk. -/
import Derived.Test.YthmehknjdkbemaaDoorS20
namespace Go.Proofs
open Go.RowKit Go.Tr

set_option maxRecDepth 100000 in
set_option maxHeartbeats 4000000 in
theorem Tryd.Back_in (a0 : Option Addr) (len cap : Nat) (many to : Int) (ops : Nat → Int × Int × Int × Int) (w : World) (hlen : len ≤ 9223372036854775807) (hmany : many ≤ 9223372036854775807) (hTb : Tbl w) (hO : OpsAt w a0 len ops) (h4 : ∀ i, i < len → (ops i).2.2.2 ≤ 9223372036854775807) :
    Calls Tryd.prog 6 #[.slice a0 len cap, .int .i64 many, .int .i64 to] w fun e w' => e = .returned (.bool true) ∧ Below w.heap.size w w' := by
  have HTb := hide hTb
  have HO := hide hO
  have H4 := hide h4
  clear hTb hO h4
  by_cases hg : 30 < len
  · have d1 : decide (30 < (len : Int)) = true := decide_eq_true (by omega)
    go_enter Tryd.func6, Tryd.ntmps6
    go_wp2_with fail
    refine (Tryd.awake_in w HTb.out).mono ?_
    rintro e w1 ⟨rfl, hB1⟩
    go_wp2_with fail
    refine (Tryd.New_st 40 w w1 (by omega) (by omega) hB1 HTb.out).mono ?_
    rintro e w2 ⟨rfl, h2⟩
    have HB := hide h2.below
    clear h2 hB1
    go_wp2
    go_ret
    exact ⟨rfl, HB.out⟩
  have hl : len ≤ 30 := by omega
  clear hg hlen
  have d1 : decide (30 < (len : Int)) = false := decide_eq_false (by omega)
  go_enter Tryd.func6, Tryd.ntmps6
  go_wp2_with fail
  refine (Tryd.awake_in w HTb.out).mono ?_
  rintro e w1 ⟨rfl, hB1⟩
  go_wp2_with fail
  refine (Tryd.New_st 40 w w1 (by omega) (by omega) hB1 HTb.out).mono ?_
  rintro e w2 ⟨rfl, hS2⟩
  have HS2 := hide hS2
  clear hS2 hB1
  generalize w1.heap.size = b at *
  go_wp2
  go_loopw [10] (fun i wr => ∃ (k : Nat) (L : List Win), k ≤ len ∧ i = .int .i64 k ∧ St w wr b 40 L ∧ No7 L) (fun i _ => len - (intOf i).toNat)
  case atStart => exact ⟨0, [], Nat.zero_le _, rfl, HS2.out, fun x hx => by cases hx⟩
  case round =>
    obtain ⟨k, L, hk, rfl, hS, h7⟩ := hrel
    have HS := hide hS
    have H7 := hide h7
    clear hS h7
    by_cases hlt : k < len
    · obtain ⟨ab, off, rfl, hab, hcs⟩ := HO.out (by omega)
      obtain ⟨c0, c1, c2, c3⟩ := hcs k hlt
      have e1 := (HS.out.below.cell (p := ⟨ab, off + k * 4 + 1, none⟩) hab).trans c1
      have e3 := (HS.out.below.cell (p := ⟨ab, off + k * 4 + 3, none⟩) hab).trans c3
      have h4 := H4.out k hlt
      clear hcs c0 c1 c2 c3
      generalize ops k = q at *
      obtain ⟨q0, q1, q2, q3⟩ := q
      dsimp only at e1 e3 h4
      have hq6 : q1.tmod 7 ≤ 6 ∧ -6 ≤ q1.tmod 7 := by have := Int.tmod_lt_of_pos q1 (show (0 : Int) < 7 by decide); have := Int.lt_tmod_of_pos q1 (show (0 : Int) < 7 by decide); omega
      have hw : IntKind.i64.wrap (q1.tmod 7) = q1.tmod 7 := i64w (by omega) (by omega)
      have H6 := hide hq6.1
      generalize hq : q1.tmod 7 = qm at *
      clear hq6
      go_wp2
      go_still_tail 12, (by kernel_rfl)
      change wpList _ _ _ _ _ wr.drew
      go_wp2_with (go_at_call 12; refine (Tryd.Insert_st (HS.out.drewN 1) qm q3 h4).mono ?_; rintro e w4 ⟨rfl, hS4⟩)
      have HS4 := hide hS4
      clear hS4
      go_roundw
      case rel => exact ⟨k + 1, _, hlt, by go_num, HS4.out, H7.out.ins _ _ H6.out⟩
      case measure => simp [intOf]; omega
    · obtain rfl : k = len := by omega
      clear HS2
      go_wp2_with fail
      refine (Tryd.Slots_out HS.out).mono ?_
      rintro e w3 ⟨A, c, rfl, hR3, hS3, -⟩
      have HS3 := hide hS3
      have HR3 := hide hR3
      have hok := hide hS3.ok
      have hL256 : L.length ≤ 256 := by have := hS3.ok.length; omega
      clear hS3 hR3 HS
      have hGA : ∀ a, A = some a → (fun k => ∃ a, A = some a ∧ k = a.block) a.block := fun a h => ⟨a, h, rfl⟩
      have HGA := hide hGA
      clear hGA
      by_cases hm : many < 1 ∨ gapAt 40 L many.toNat = none
      · have hc : insC 40 L 7 many = (0, 1) ∧ insL 40 L 7 many = L ∨ insC 40 L 7 many = (0, 8) ∧ insL 40 L 7 many = L := by
          by_cases h1 : many < 1
          · left; unfold insC insL; rw [if_pos (by omega), if_pos (by omega)]; exact ⟨rfl, rfl⟩
          · right; unfold insC insL; rw [if_neg (by omega), if_neg (by omega), hm.resolve_left h1]; exact ⟨rfl, rfl⟩
        clear hm
        have hci := Tryd.Insert_g HS3.out 7 many hmany
        have Hci := hide hci
        clear hci
        rcases hc with ⟨h1, h2⟩ | ⟨h1, h2⟩
        all_goals
          rw [h1, h2] at Hci
          clear h1 h2
          go_wp2_with fail
          refine Hci.out.mono ?_
          rintro e w4 ⟨rfl, hS4, hK4⟩
          have HS4 := hide hS4
          have HR4 := hide (HR3.out.kept hK4 HGA.out)
          clear hS4 hK4
          go_wp2_with fail
          refine (Tryd.Slots_g HS4.out).mono ?_
          rintro e w5 ⟨A2, c2, rfl, hR5, hS5, hB5⟩
          have HS5 := hide hS5
          have HR5 := hide hR5
          have HR4' := hide (HR4.out.below hB5)
          clear hS5 hR5 hB5
          go_wp2_with fail
          have hs := Tryd.Same_any A A2 c c2 L L w5 HR4'.out HR5.out (by omega) (by omega)
          rw [decide_eq_true rfl] at hs
          refine hs.mono ?_
          clear hs
          rintro e w6 ⟨rfl, q6, rfl⟩
          have HS6 := hide (HS5.out.drewN q6)
          generalize w5.drewN q6 = w6 at *
          go_wp2_with fail
          have hr := Tryd.Remove_g HS6.out 7
          rw [seven_none H7.out] at hr
          refine hr.mono ?_
          clear hr
          rintro e w7 ⟨rfl, hS7, -⟩
          have HB := hide hS7.below
          clear hS7
          go_wp2
          go_ret
          exact ⟨rfl, HB.out⟩
      · obtain ⟨m, rfl⟩ := Int.eq_ofNat_of_zero_le (show 0 ≤ many by omega)
        have hm1 : 1 ≤ m := by omega
        obtain ⟨f, hf⟩ : ∃ f, gapAt 40 L m = some f := by
          cases h : gapAt 40 L m with
          | none => exact absurd (.inr h) hm
          | some f => exact ⟨f, rfl⟩
        clear hm
        have hci := Tryd.Insert_g HS3.out 7 m hmany
        have e1 : insC 40 L 7 m = ((f : Int), 0) := by unfold insC; rw [if_neg (by omega), show (m : Int).toNat = m from rfl, hf]
        have e2 : insL 40 L 7 m = insW L (7, f, m) := by unfold insL; rw [if_neg (by omega), show (m : Int).toNat = m from rfl, hf]; rfl
        rw [e1, e2] at hci
        have hmv := seven_move hok.out H7.out f m to
        have hgp := seven_gap hm1 hf
        obtain ⟨hf1, hf2⟩ := gapAt_some hf
        have i1 : inT (7, f, m) f = true := by simp [inT]; omega
        have hat : ∀ w5, StG (fun k => ∃ a, A = some a ∧ k = a.block) w w5 b 40 (insW L (7, f, m)) → atL (insW L (7, f, m)) f = 7 := fun w5 h => atL_mem h.ok (by simp [insW]) i1
        have hrm := seven_keep hok.out H7.out f m
        have Hci := hide hci
        have Hmv := hide hmv
        have Hgp := hide hgp
        have Hat := hide hat
        have Hrm := hide hrm
        clear hci e1 e2 hmv hgp hf2 i1 hat hrm hf
        go_wp2_with fail
        refine Hci.out.mono ?_
        rintro e w4 ⟨rfl, hS4, hK4⟩
        have HS4 := hide hS4
        have HR4 := hide (HR3.out.kept hK4 HGA.out)
        clear hS4 hK4
        by_cases hp : placeC 40 L 7 to m = 0
        · have hto : ∃ t : Nat, to = t := by obtain ⟨_, _, _, h, _⟩ := placeC_free hp; exact Int.eq_ofNat_of_zero_le h
          obtain ⟨t, rfl⟩ := hto
          have hc1 := Tryd.Move_g HS4.out 7 f t
          rw [Hmv.out.1, Hmv.out.2, hp, if_pos rfl, show (t : Int).toNat = t from rfl] at hc1
          have hback := seven_move hok.out H7.out t m f
          rw [Hgp.out, if_pos rfl, show (f : Int).toNat = f from rfl] at hback
          have Hc1 := hide hc1
          have Hback := hide hback
          clear hc1 hback hp
          go_wp2_with fail
          refine Hc1.out.mono ?_
          rintro e w5 ⟨rfl, hS5, hK5⟩
          have HS5 := hide hS5
          have HR5 := hide (HR4.out.kept hK5 HGA.out)
          clear hS5 hK5
          go_wp2_with fail
          have hc2 := Tryd.Move_g HS5.out 7 t f
          rw [Hback.out.1, Hback.out.2] at hc2
          refine hc2.mono ?_
          clear hc2
          rintro e w6 ⟨rfl, hS6, hK6⟩
          have HS6 := hide hS6
          have HR6 := hide (HR5.out.kept hK6 HGA.out)
          clear hS6 hK6
          go_wp2_with fail
          have ha := Tryd.At_g HS6.out (f : Int)
          rw [Hat.out _ HS6.out] at ha
          refine ha.mono ?_
          clear ha
          rintro e w7 ⟨rfl, hS7, hB7⟩
          have HS7 := hide hS7
          have HR7 := hide (HR6.out.below hB7)
          clear hS7 hB7
          go_wp2_with fail
          have hr := Tryd.Remove_g HS7.out 7
          rw [Hrm.out.1, Hrm.out.2] at hr
          refine hr.mono ?_
          clear hr
          rintro e w8 ⟨rfl, hS8, hK8⟩
          have HS8 := hide hS8
          have HR8 := hide (HR7.out.kept hK8 HGA.out)
          clear hS8 hK8
          go_wp2_with fail
          refine (Tryd.Slots_g HS8.out).mono ?_
          rintro e w9 ⟨A2, c2, rfl, hR9, hS9, hB9⟩
          have HS9 := hide hS9
          have HR9 := hide hR9
          have HR8' := hide (HR8.out.below hB9)
          clear hS9 hR9 hB9
          go_wp2_with fail
          have hs := Tryd.Same_any A A2 c c2 L L w9 HR8'.out HR9.out (by omega) (by omega)
          rw [decide_eq_true rfl] at hs
          refine hs.mono ?_
          clear hs
          rintro e wa ⟨rfl, qa, rfl⟩
          have HSa := hide (HS9.out.drewN qa)
          generalize w9.drewN qa = wa at *
          go_wp2_with fail
          have hr := Tryd.Remove_g HSa.out 7
          rw [seven_none H7.out] at hr
          refine hr.mono ?_
          clear hr
          rintro e wb ⟨rfl, hSb, -⟩
          have HB := hide hSb.below
          clear hSb
          go_wp2
          go_ret
          exact ⟨rfl, HB.out⟩
        · have hpn : (placeC 40 L 7 to m == 0) = false := by simpa using hp
          have hc1 := Tryd.Move_g HS4.out 7 f to
          rw [Hmv.out.1, Hmv.out.2, if_neg hp] at hc1
          have Hc1 := hide hc1
          clear hc1 hp
          go_wp2_with fail
          refine Hc1.out.mono ?_
          rintro e w6 ⟨rfl, hS6, hK6⟩
          have HS6 := hide hS6
          have HR6 := hide (HR4.out.kept hK6 HGA.out)
          clear hS6 hK6
          go_wp2_with fail
          have ha := Tryd.At_g HS6.out (f : Int)
          rw [Hat.out _ HS6.out] at ha
          refine ha.mono ?_
          clear ha
          rintro e w7 ⟨rfl, hS7, hB7⟩
          have HS7 := hide hS7
          have HR7 := hide (HR6.out.below hB7)
          clear hS7 hB7
          go_wp2_with fail
          have hr := Tryd.Remove_g HS7.out 7
          rw [Hrm.out.1, Hrm.out.2] at hr
          refine hr.mono ?_
          clear hr
          rintro e w8 ⟨rfl, hS8, hK8⟩
          have HS8 := hide hS8
          have HR8 := hide (HR7.out.kept hK8 HGA.out)
          clear hS8 hK8
          go_wp2_with fail
          refine (Tryd.Slots_g HS8.out).mono ?_
          rintro e w9 ⟨A2, c2, rfl, hR9, hS9, hB9⟩
          have HS9 := hide hS9
          have HR9 := hide hR9
          have HR8' := hide (HR8.out.below hB9)
          clear hS9 hR9 hB9
          go_wp2_with fail
          have hs := Tryd.Same_any A A2 c c2 L L w9 HR8'.out HR9.out (by omega) (by omega)
          rw [decide_eq_true rfl] at hs
          refine hs.mono ?_
          clear hs
          rintro e wa ⟨rfl, qa, rfl⟩
          have HSa := hide (HS9.out.drewN qa)
          generalize w9.drewN qa = wa at *
          go_wp2_with fail
          have hr := Tryd.Remove_g HSa.out 7
          rw [seven_none H7.out] at hr
          refine hr.mono ?_
          clear hr
          rintro e wb ⟨rfl, hSb, -⟩
          have HB := hide hSb.below
          clear hSb
          go_wp2
          go_ret
          exact ⟨rfl, HB.out⟩
end Go.Proofs
