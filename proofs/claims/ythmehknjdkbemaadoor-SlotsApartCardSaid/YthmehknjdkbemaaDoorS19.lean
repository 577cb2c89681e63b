/- The law SlotsApart: its walk. -/
import Derived.Test.YthmehknjdkbemaaDoorS18
namespace Go.Proofs
open Go.RowKit Go.Tr

set_option maxRecDepth 100000 in
set_option maxHeartbeats 4000000 in
theorem Tryd.Apart_in (ticks : Int) (a0 : Option Addr) (len cap : Nat) (ops : Nat → Int × Int × Int × Int) (w : World) (hlen : len ≤ 9223372036854775807) (hTb : Tbl w) (hO : OpsAt w a0 len ops) (h4 : ∀ i, i < len → (ops i).2.2.2 ≤ 9223372036854775807) :
    Calls Tryd.prog 4 #[.int .i64 ticks, .slice a0 len cap] w fun e w' => e = .returned (.bool true) ∧ Below w.heap.size w w' := by
  have HTb := hide hTb
  have HO := hide hO
  have H4 := hide h4
  clear hTb hO h4
  by_cases ht : ticks < 1 ∨ 256 < ticks
  · have Ht := hide ht
    clear ht
    go_enter Tryd.func4, Tryd.ntmps4
    go_wp2_with fail
    refine (Tryd.awake_in w HTb.out).mono ?_
    rintro e w1 ⟨rfl, hB1⟩
    have HB := hide hB1
    clear hB1
    go_wp2_with fail
    refine (Tryd.New_no ticks w1 Ht.out).mono ?_
    rintro e w2 ⟨rfl, rfl⟩
    go_wp2
    go_ret
    exact ⟨rfl, HB.out⟩
  obtain ⟨N, rfl⟩ := Int.eq_ofNat_of_zero_le (show 0 ≤ ticks by omega)
  have hN1 : 1 ≤ N := by omega
  have hN2 : N ≤ 256 := by omega
  clear ht
  by_cases hg : 60 < len
  · have d1 : decide (60 < (len : Int)) = true := decide_eq_true (by omega)
    go_enter Tryd.func4, Tryd.ntmps4
    go_wp2_with fail
    refine (Tryd.awake_in w HTb.out).mono ?_
    rintro e w1 ⟨rfl, hB1⟩
    go_wp2_with fail
    refine (Tryd.New_st N w w1 hN1 hN2 hB1 HTb.out).mono ?_
    rintro e w2 ⟨rfl, h2⟩
    have HB := hide h2.below
    clear h2 hB1
    go_wp2
    go_ret
    exact ⟨rfl, HB.out⟩
  have hl : len ≤ 60 := by omega
  clear hg hlen
  have d1 : decide (60 < (len : Int)) = false := decide_eq_false (by omega)
  go_enter Tryd.func4, Tryd.ntmps4
  go_wp2_with fail
  refine (Tryd.awake_in w HTb.out).mono ?_
  rintro e w1 ⟨rfl, hB1⟩
  go_wp2_with fail
  refine (Tryd.New_st N w w1 hN1 hN2 hB1 HTb.out).mono ?_
  rintro e w2 ⟨rfl, hS2⟩
  have HS2 := hide hS2
  clear hS2 hB1
  generalize w1.heap.size = b at *
  go_wp2
  go_loopw [8] (fun i wr => ∃ (k : Nat) (L : List Win), k ≤ len ∧ i = .int .i64 k ∧ St w wr b N L) (fun i _ => len - (intOf i).toNat)
  case atStart => exact ⟨0, [], Nat.zero_le _, rfl, HS2.out⟩
  case round =>
    obtain ⟨k, L, hk, rfl, hS⟩ := hrel
    have HS := hide hS
    clear hS
    by_cases hlt : k < len
    · obtain ⟨ab, off, rfl, hab, hcs⟩ := HO.out (by omega)
      obtain ⟨c0, c1, c2, c3⟩ := hcs k hlt
      have e0 := (HS.out.below.cell (p := ⟨ab, off + k * 4, none⟩) hab).trans c0
      have e1 := (HS.out.below.cell (p := ⟨ab, off + k * 4 + 1, none⟩) hab).trans c1
      have e2 := (HS.out.below.cell (p := ⟨ab, off + k * 4 + 2, none⟩) hab).trans c2
      have e3 := (HS.out.below.cell (p := ⟨ab, off + k * 4 + 3, none⟩) hab).trans c3
      have h4 := H4.out k hlt
      clear hcs c0 c1 c2 c3
      generalize ops k = q at *
      obtain ⟨q0, q1, q2, q3⟩ := q
      dsimp only at e0 e1 e2 e3 h4
      by_cases h0 : q0 = 4
      · subst h0
        go_wp2
        go_still_tail 16, (by kernel_rfl)
        change wpList _ _ _ _ _ wr.drew
        go_wp2_with (go_at_call 13; refine (Tryd.Move_st HS.out.drew q1 q2 q3).mono ?_; rintro e w4 ⟨rfl, hS4⟩)
        have HS4 := hide hS4
        clear hS4
        go_roundw
        case rel => exact ⟨k + 1, _, hlt, by go_num, HS4.out⟩
        case measure => simp [intOf]; omega
      · have d0 : (q0 == 4) = false := by simpa using h0
        clear h0
        by_cases h0 : q0 = 2
        · subst h0
          go_wp2
          go_still_tail 16, (by kernel_rfl)
          change wpList _ _ _ _ _ wr.drew
          go_wp2_with (go_at_call 10; refine (Tryd.Place_st HS.out.drew q1 q2 q3).mono ?_; rintro e w4 ⟨rfl, hS4⟩)
          have HS4 := hide hS4
          clear hS4
          go_roundw
          case rel => exact ⟨k + 1, _, hlt, by go_num, HS4.out⟩
          case measure => simp [intOf]; omega
        · have d2 : (q0 == 2) = false := by simpa using h0
          clear h0
          go_wp2
          go_still_tail 11, (by kernel_rfl)
          change wpList _ _ _ _ _ wr.drew
          go_wp2_with (go_at_call 12; refine (Tryd.Insert_st HS.out.drew q1 q3 h4).mono ?_; rintro e w4 ⟨rfl, hS4⟩)
          have HS4 := hide hS4
          clear hS4
          go_roundw
          case rel => exact ⟨k + 1, _, hlt, by go_num, HS4.out⟩
          case measure => simp [intOf]; omega
    · obtain rfl : k = len := by omega
      go_wp2_with fail
      refine (Tryd.Slots_st HS.out).mono ?_
      rintro e w3 ⟨A, c, rfl, hR3, hS3, -⟩
      have HS3 := hide hS3
      have HR3 := hide hR3
      have hok := hide hS3.ok
      have hL256 : L.length ≤ 256 := by have := hS3.ok.length; omega
      clear hS3 hR3 HS HS2
      go_wp2
      go_loopw [10, 11, 12] (fun all i _ wr => ∃ j : Nat, j ≤ L.length ∧ i = .int .i64 j ∧ all = .int .i64 (sumL (L.take j)) ∧ St w wr b N L ∧ SlotRow wr A L)
        (fun _ i _ _ => L.length - (intOf i).toNat)
      case atStart => exact ⟨0, Nat.zero_le _, rfl, rfl, HS3.out, HR3.out⟩
      case round =>
        obtain ⟨j, hj, rfl, rfl, hS, hR⟩ := hrel
        have HS := hide hS
        have HR := hide hR
        clear hS hR HS3 HR3
        by_cases hlt : j < L.length
        · obtain ⟨x, hx⟩ : ∃ x, L[j]? = some x := ⟨L[j], List.getElem?_eq_getElem hlt⟩
          have Hx := hide hx
          obtain ⟨g, rfl, hg, hcs⟩ := HR.out (by omega)
          obtain ⟨c0, c1, c2⟩ := hcs j x hx
          obtain ⟨hp1, hp2, hp3⟩ := hok.out.1 x (List.mem_of_getElem? hx)
          have hsum := hide (sumL_take hx)
          have hle := sumL_le hok.out j
          have dA : decide ((x.2.2 : Int) < 1) = false := decide_eq_false (by omega)
          have dB : decide ((x.2.1 : Int) < 0) = false := decide_eq_false (by omega)
          have dC : decide ((N : Int) < (x.2.1 : Int) + x.2.2) = false := decide_eq_false (by omega)
          have hin : ∀ k : Nat, x.2.1 ≤ k → k < x.2.1 + x.2.2 → atL L k = x.1 := fun k h1 h2 => atL_mem hok.out (List.mem_of_getElem? hx) (by simp [inT]; omega)
          have Hin := hide hin
          clear hx hin
          have dD : ∀ i, j = i + 1 → ∃ y : Win, wr.cell? ⟨g, i * 3 + 1, none⟩ = some (.int .i64 y.2.1) ∧ wr.cell? ⟨g, i * 3 + 2, none⟩ = some (.int .i64 y.2.2) ∧ y.2.1 + y.2.2 ≤ x.2.1 := by
            rintro i rfl
            obtain ⟨y, hy⟩ : ∃ y, L[i]? = some y := ⟨L[i]'(by omega), List.getElem?_eq_getElem (by omega)⟩
            obtain ⟨-, c1', c2'⟩ := hcs i y hy
            exact ⟨y, c1', c2', pair_at hok.out.2 hy Hx.out (Nat.lt_succ_self _)⟩
          clear hcs
          have hw1 : IntKind.i64.wrap ((x.2.1 : Int) + x.2.2) = (x.2.1 : Int) + x.2.2 := i64w (by omega) (by omega)
          generalize sumL (L.take j) = S at *
          by_cases hj0 : j = 0
          · clear dD
            have dF : decide (0 < (j : Int)) = false := decide_eq_false (by omega)
            have dF' : decide (0 < j) = false := decide_eq_false (by omega)
            clear hj0
            go_wp2
            go_quiet (fail)
            go_wp2
            go_loopw [10, 12] (fun all kk wr' => ∃ t : Nat, t ≤ x.2.2 ∧ kk = .int .i64 ((x.2.1 + t : Nat) : Int) ∧ all = .int .i64 ((S + t : Nat) : Int) ∧ St w wr' b N L ∧ SlotRow wr' (some ⟨g, 0, none⟩) L)
              (fun _ kk _ => x.2.1 + x.2.2 - (intOf kk).toNat)
            case atStart => exact ⟨0, Nat.zero_le _, by go_num, by go_num, HS.out.drewN _, HR.out.drewN _⟩
            case round =>
              obtain ⟨t, ht, rfl, rfl, hS, hR⟩ := hrel
              have HS' := hide hS
              have HR' := hide hR
              clear hS hR
              obtain ⟨g', hgg, hg', hcs⟩ := HR'.out (by omega)
              obtain rfl : g = g' := by simpa using hgg
              obtain ⟨b0, b1, b2⟩ := hcs _ x Hx.out
              clear hcs hgg
              by_cases htl : t < x.2.2
              · have hat : atL L ((x.2.1 : Int) + t) = x.1 := Hin.out (x.2.1 + t) (by omega) (by omega)
                have dk : decide (((x.2.1 + t : Nat) : Int) < (x.2.1 : Int) + x.2.2) = true := decide_eq_true (by omega)
                go_wp2
                go_quiet (fail)
                go_wp2
                go_region_with (refine (Tryd.At_row (HS'.out.drewN _) ((x.2.1 : Int) + t)).mono ?_; rw [hat]; rintro e w5 ⟨rfl, hS5, hB5⟩; have e0 := (hB5.cell (p := ⟨g, j * 3, none⟩) hg').trans b0; have HS5 := hide hS5; have HB5 := hide hB5; clear hS5 hB5)
                all_goals
                  go_wp2
                  go_roundw
                  case rel => exact ⟨t + 1, htl, by go_num, by go_num, HS5.out, (HR'.out.drewN _).below HB5.out⟩
                  case measure => simp [intOf]; omega
              · obtain rfl : t = x.2.2 := by omega
                have dk : decide (((x.2.1 + x.2.2 : Nat) : Int) < (x.2.1 : Int) + x.2.2) = false := decide_eq_false (by omega)
                go_wp2
                go_quiet (fail)
                go_wp2
                go_roundw
                case rel => exact ⟨j + 1, hlt, by go_num, by rw [hsum.out], HS'.out.drewN _, HR'.out.drewN _⟩
                case measure => simp [intOf]; omega
          · obtain ⟨i, hi⟩ : ∃ i, j = i + 1 := ⟨j - 1, by omega⟩
            obtain ⟨y, y1, y2, hyx⟩ := dD i hi
            have dE : decide ((x.2.1 : Int) < (y.2.1 : Int) + y.2.2) = false := decide_eq_false (by omega)
            have hw2 : IntKind.i64.wrap ((y.2.1 : Int) + y.2.2) = (y.2.1 : Int) + y.2.2 := i64w (by omega) (by omega)
            have dF : decide (0 < (j : Int)) = true := decide_eq_true (by omega)
            have dF' : decide (0 < j) = true := decide_eq_true (by omega)
            have hji : (j : Int) - 1 = i := by omega
            have hw3 : IntKind.i64.wrap ((j : Int) - 1) = i := by rw [i64w (by omega) (by omega)]; omega
            clear dD hi hj0
            go_wp2
            go_quiet (fail)
            go_wp2
            go_loopw [10, 12] (fun all kk wr' => ∃ t : Nat, t ≤ x.2.2 ∧ kk = .int .i64 ((x.2.1 + t : Nat) : Int) ∧ all = .int .i64 ((S + t : Nat) : Int) ∧ St w wr' b N L ∧ SlotRow wr' (some ⟨g, 0, none⟩) L)
              (fun _ kk _ => x.2.1 + x.2.2 - (intOf kk).toNat)
            case atStart => exact ⟨0, Nat.zero_le _, by go_num, by go_num, HS.out.drewN _, HR.out.drewN _⟩
            case round =>
              obtain ⟨t, ht, rfl, rfl, hS, hR⟩ := hrel
              have HS' := hide hS
              have HR' := hide hR
              clear hS hR
              obtain ⟨g', hgg, hg', hcs⟩ := HR'.out (by omega)
              obtain rfl : g = g' := by simpa using hgg
              obtain ⟨b0, b1, b2⟩ := hcs _ x Hx.out
              clear hcs hgg
              by_cases htl : t < x.2.2
              · have hat : atL L ((x.2.1 : Int) + t) = x.1 := Hin.out (x.2.1 + t) (by omega) (by omega)
                have dk : decide (((x.2.1 + t : Nat) : Int) < (x.2.1 : Int) + x.2.2) = true := decide_eq_true (by omega)
                go_wp2
                go_quiet (fail)
                go_wp2
                go_region_with (refine (Tryd.At_row (HS'.out.drewN _) ((x.2.1 : Int) + t)).mono ?_; rw [hat]; rintro e w5 ⟨rfl, hS5, hB5⟩; have e0 := (hB5.cell (p := ⟨g, j * 3, none⟩) hg').trans b0; have HS5 := hide hS5; have HB5 := hide hB5; clear hS5 hB5)
                all_goals
                  go_wp2
                  go_roundw
                  case rel => exact ⟨t + 1, htl, by go_num, by go_num, HS5.out, (HR'.out.drewN _).below HB5.out⟩
                  case measure => simp [intOf]; omega
              · obtain rfl : t = x.2.2 := by omega
                have dk : decide (((x.2.1 + x.2.2 : Nat) : Int) < (x.2.1 : Int) + x.2.2) = false := decide_eq_false (by omega)
                go_wp2
                go_quiet (fail)
                go_wp2
                go_roundw
                case rel => exact ⟨j + 1, hlt, by go_num, by rw [hsum.out], HS'.out.drewN _, HR'.out.drewN _⟩
                case measure => simp [intOf]; omega
        · obtain rfl : j = L.length := by omega
          rw [List.take_length]
          go_wp2
          go_loopw [10, 13] (fun all i wr => ∃ j : Nat, j ≤ N ∧ i = .int .i64 j ∧ all = .int .i64 ((sumL L + cnt (fun j => !taken L j) j : Nat) : Int) ∧ St w wr b N L)
            (fun _ i _ => N - (intOf i).toNat)
          case atStart => exact ⟨0, Nat.zero_le _, rfl, rfl, HS.out⟩
          case round =>
            obtain ⟨j, hj, rfl, rfl, hS⟩ := hrel
            have HS' := hide hS
            clear hS
            have hcj : cnt (fun j => !taken L j) j ≤ 256 := by have := cnt_not (taken L) j; omega
            have hsj : sumL L ≤ 256 := by have := sum_free hok.out; omega
            by_cases hjn : j < N
            · have hcs : cnt (fun j => !taken L j) (j + 1) = cnt (fun j => !taken L j) j + (if !taken L j then 1 else 0) := rfl
              cases hT : taken L j with
              | true =>
                have hat : 0 ≤ atL L j := (atL_taken j).2 hT
                rw [hT] at hcs
                have Hcs := hide hcs
                clear hT hcs
                generalize cnt (fun j => !taken L j) j = C at *
                go_wp2_with fail
                refine (Tryd.At_st HS'.out _).mono ?_
                rintro e w5 ⟨rfl, hS5⟩
                have HS5 := hide hS5
                clear hS5
                go_wp2
                go_roundw
                case rel => exact ⟨j + 1, hjn, by go_num, by rw [Hcs.out]; rfl, HS5.out⟩
                case measure => simp [intOf]; omega
              | false =>
                have hat : atL L j < 0 := by
                  have := (atL_taken (L := L) j).1
                  rcases Int.lt_or_le (atL L j) 0 with h | h
                  · exact h
                  · rw [this h] at hT; cases hT
                rw [hT] at hcs
                have Hcs := hide hcs
                clear hT hcs
                generalize cnt (fun j => !taken L j) j = C at *
                go_wp2_with fail
                refine (Tryd.At_st HS'.out _).mono ?_
                rintro e w5 ⟨rfl, hS5⟩
                have HS5 := hide hS5
                clear hS5
                go_wp2
                go_roundw
                case rel => exact ⟨j + 1, hjn, by go_num, by rw [Hcs.out]; go_num, HS5.out⟩
                case measure => simp [intOf]; omega
            · obtain rfl : j = N := by omega
              rw [sum_free hok.out]
              go_wp2_with fail
              have ha := Tryd.At_st HS'.out (j : Int)
              rw [atL_out hok.out (.inr (Int.le_refl _))] at ha
              refine ha.mono ?_
              clear ha
              rintro e w6 ⟨rfl, hS6⟩
              have HS6 := hide hS6
              clear hS6
              go_wp2_with fail
              have ha := Tryd.At_st HS6.out (-1)
              rw [atL_out hok.out (.inl (by decide))] at ha
              refine ha.mono ?_
              clear ha
              rintro e w7 ⟨rfl, hS7⟩
              have HB := hide hS7.below
              clear hS7
              go_wp2
              go_ret
              exact ⟨rfl, HB.out⟩
end Go.Proofs
