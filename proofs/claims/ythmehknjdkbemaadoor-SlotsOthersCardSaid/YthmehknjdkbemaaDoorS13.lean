/- The law SlotsFirst: its walk. -/
import Derived.Test.YthmehknjdkbemaaDoorS12
import Derived.StillTailTactics
namespace Go.Proofs
open Go.RowKit Go.Tr

theorem atL_mem {N : Nat} {L : List Win} (hL : OkW N L) {x : Win} (hx : x ∈ L) {t : Int} (ht : inT x t = true) : atL L t = x.1 := by
  unfold atL
  have : L.find? (fun y => inT y t) = some x := by
    cases hf : L.find? (fun y => inT y t) with
    | none =>
      rw [List.find?_eq_none] at hf
      exact absurd ht (hf x hx)
    | some y =>
      have hy := List.find?_some hf
      have hm := List.mem_of_find?_eq_some hf
      have : ∀ (l : List Win), l.Pairwise (fun x y => x.2.1 + x.2.2 ≤ y.2.1) → x ∈ l → y ∈ l → y = x := by
        intro l
        induction l with
        | nil => intro _ h; cases h
        | cons a l ih =>
          intro hp h1 h2
          rw [List.pairwise_cons] at hp
          simp only [inT, Bool.and_eq_true, decide_eq_true_eq] at ht hy
          rcases List.mem_cons.1 h1 with e1 | h1'
          · rcases List.mem_cons.1 h2 with e2 | h2'
            · exact e2.trans e1.symm
            · have := hp.1 y h2'; subst e1; omega
          · rcases List.mem_cons.1 h2 with e2 | h2'
            · have := hp.1 x h1'; subst e2; omega
            · exact ih hp.2 h1' h2'
      rw [this L hL.2 hx hm]
  rw [this]
theorem atL_taken {L : List Win} (k : Nat) : (0 ≤ atL L k ↔ taken L k = true) := by
  unfold atL taken
  cases hf : L.find? (fun y => inT y k) with
  | none =>
    rw [List.find?_eq_none] at hf
    have : L.any (fun x => inW x k) = false := by
      rw [List.any_eq_false]
      intro x hx h
      refine hf x hx ?_
      simp only [inW, inT, Bool.and_eq_true, decide_eq_true_eq] at h ⊢
      omega
    rw [this]
    simp
  | some y =>
    have hy := List.find?_some hf
    have hm := List.mem_of_find?_eq_some hf
    have : L.any (fun x => inW x k) = true := by
      rw [List.any_eq_true]
      refine ⟨y, hm, ?_⟩
      simp only [inW, inT, Bool.and_eq_true, decide_eq_true_eq] at hy ⊢
      omega
    rw [this]
    simp

/-- k ticks have been looked at, the last run of them free, and there was no gap -/
def Scan (L : List Win) (m k run : Nat) : Prop :=
  run ≤ k ∧ run < m ∧ (∀ j, k - run ≤ j → j < k → taken L j = false) ∧ (∀ f, f + m ≤ k → ∃ j, f ≤ j ∧ j < f + m ∧ taken L j = true) ∧ (run < k → taken L (k - run - 1) = true)
theorem Scan.start (L : List Win) (m : Nat) (hm : 1 ≤ m) : Scan L m 0 0 := ⟨by omega, by omega, fun j _ h => by omega, fun f h => by omega, fun h => by omega⟩
theorem Scan.hit {L : List Win} {m k run : Nat} (h : Scan L m k run) (ht : taken L k = true) : Scan L m (k + 1) 0 := by
  obtain ⟨h1, h2, h3, h4, h5⟩ := h
  refine ⟨by omega, by omega, fun j a b => by omega, fun f hf => ?_, fun _ => by simpa using ht⟩
  by_cases e : f + m ≤ k
  · exact h4 f e
  · exact ⟨k, by omega, by omega, ht⟩
theorem Scan.miss {L : List Win} {m k run : Nat} (h : Scan L m k run) (ht : taken L k = false) (hr : run + 1 ≠ m) : Scan L m (k + 1) (run + 1) := by
  obtain ⟨h1, h2, h3, h4, h5⟩ := h
  refine ⟨by omega, by omega, fun j a b => ?_, fun f hf => ?_, fun hlt => ?_⟩
  · by_cases e : j = k
    · subst e; exact ht
    · exact h3 j (by omega) (by omega)
  · by_cases e : f + m ≤ k
    · exact h4 f e
    · exact ⟨k - run - 1, by omega, by omega, h5 (by omega)⟩
  · have := h5 (by omega)
    rwa [show k - run - 1 = k + 1 - (run + 1) - 1 by omega] at this
theorem Scan.found {N : Nat} {L : List Win} {m k run : Nat} (h : Scan L m k run) (ht : taken L k = false) (hr : run + 1 = m) (hk : k < N) : gapAt N L m = some (k + 1 - m) := by
  obtain ⟨h1, h2, h3, h4, h5⟩ := h
  refine gapAt_eq (by omega) (by omega) (fun j a b => ?_) (fun f' hf' => h4 f' (by omega))
  by_cases e : j = k
  · subst e; exact ht
  · exact h3 j (by omega) (by omega)

/-- the argument: a slice of structs of four ints -/
def OpsAt (w : World) (a0 : Option Addr) (len : Nat) (ops : Nat → Int × Int × Int × Int) : Prop :=
  0 < len → ∃ b off, a0 = some ⟨b, off, none⟩ ∧ b < w.heap.size ∧ ∀ i, i < len → w.cell? ⟨b, off + i * 4, none⟩ = some (.int .i64 (ops i).1) ∧ w.cell? ⟨b, off + i * 4 + 1, none⟩ = some (.int .i64 (ops i).2.1) ∧
    w.cell? ⟨b, off + i * 4 + 2, none⟩ = some (.int .i64 (ops i).2.2.1) ∧ w.cell? ⟨b, off + i * 4 + 3, none⟩ = some (.int .i64 (ops i).2.2.2)

set_option maxRecDepth 100000 in
set_option maxHeartbeats 2000000 in
theorem Tryd.First_in (a0 : Option Addr) (len cap : Nat) (many : Int) (ops : Nat → Int × Int × Int × Int) (w : World) (hlen : len ≤ 9223372036854775807) (hTb : Tbl w) (hO : OpsAt w a0 len ops) :
    Calls Tryd.prog 3 #[.slice a0 len cap, .int .i64 many] w fun e w' => e = .returned (.bool true) ∧ Below w.heap.size w w' := by
  have HTb := hide hTb
  have HO := hide hO
  clear hTb hO
  by_cases hg : 40 < len ∨ many < 1 ∨ 50 < many
  · have hcases : (40 < len) ∨ (len ≤ 40 ∧ many < 1) ∨ (len ≤ 40 ∧ 1 ≤ many ∧ 50 < many) := by omega
    clear hg
    rcases hcases with h1 | ⟨h1, h2⟩ | ⟨h1, h2, h3⟩
    all_goals
      go_enter Tryd.func3, Tryd.ntmps3
      go_wp2_with fail
      refine (Tryd.awake_in w HTb.out).mono ?_
      rintro e w1 ⟨rfl, hB1⟩
      go_wp2_with fail
      refine (Tryd.New_st 40 w w1 (by omega) (by omega) hB1 HTb.out).mono ?_
      rintro e w2 ⟨rfl, h2⟩
      have HB := hide h2.below
      clear h2 hB1
      go_wp2
      go_ret
      exact ⟨rfl, HB.out⟩
  · obtain ⟨m, rfl⟩ := Int.eq_ofNat_of_zero_le (show 0 ≤ many by omega)
    have hl : len ≤ 40 := by omega
    have hm1 : 1 ≤ m := by omega
    have hm2 : m ≤ 50 := by omega
    clear hg hlen
    go_enter Tryd.func3, Tryd.ntmps3
    go_wp2_with fail
    refine (Tryd.awake_in w HTb.out).mono ?_
    rintro e w1 ⟨rfl, hB1⟩
    go_wp2_with fail
    refine (Tryd.New_st 40 w w1 (by omega) (by omega) hB1 HTb.out).mono ?_
    rintro e w2 ⟨rfl, hS2⟩
    have HS2 := hide hS2
    clear hS2 hB1
    have d1 : decide (40 < (len : Int)) = false := decide_eq_false (by omega)
    have d2 : decide ((m : Int) < 1) = false := decide_eq_false (by omega)
    have d3 : decide (50 < (m : Int)) = false := decide_eq_false (by omega)
    generalize w1.heap.size = b at *
    go_wp2
    go_loopw [8] (fun i wr => ∃ (k : Nat) (L : List Win), k ≤ len ∧ i = .int .i64 k ∧ St w wr b 40 L) (fun i _ => len - (intOf i).toNat)
    case atStart => exact ⟨0, [], Nat.zero_le _, rfl, HS2.out⟩
    case round =>
      obtain ⟨k, L, hk, rfl, hS⟩ := hrel
      have HS := hide hS
      clear hS
      by_cases hlt : k < len
      · obtain ⟨ab, off, rfl, hab, hcs⟩ := HO.out (by omega)
        obtain ⟨c0, c1, c2, c3⟩ := hcs k hlt
        have e1 := (HS.out.below.cell (p := ⟨ab, off + k * 4 + 1, none⟩) hab).trans c1
        have e2 := (HS.out.below.cell (p := ⟨ab, off + k * 4 + 2, none⟩) hab).trans c2
        have e3 := (HS.out.below.cell (p := ⟨ab, off + k * 4 + 3, none⟩) hab).trans c3
        clear hcs c0 c1 c2 c3
        generalize ops k = q at *
        obtain ⟨q0, q1, q2, q3⟩ := q
        dsimp only at e1 e2 e3
        go_wp2
        go_still_tail 16, (by kernel_rfl)
        change wpList _ _ _ _ _ wr.drew
        go_wp2_with (go_at_call 10; refine (Tryd.Place_st HS.out.drew q1 q2 q3).mono ?_; rintro e w4 ⟨rfl, hS4⟩)
        have HS4 := hide hS4
        clear hS4
        go_roundw
        case rel => exact ⟨k + 1, _, hlt, by go_num, HS4.out⟩
        case measure => simp [intOf]; omega
      · obtain rfl : k = len := by omega
        go_wp2
        go_loopw [9, 10, 11] (fun first run i wr => ∃ j : Nat, j ≤ 40 ∧ i = .int .i64 j ∧ St w wr b 40 L ∧ ((∃ r : Nat, run = .int .i64 r ∧ first = .int .i64 (-1) ∧ Scan L m j r) ∨ (∃ (f : Nat) (r : Int), run = .int .i64 r ∧ first = .int .i64 f ∧ gapAt 40 L m = some f)))
          (fun _ _ i _ => 40 - (intOf i).toNat)
        case atStart => exact ⟨0, Nat.zero_le _, rfl, HS.out, .inl ⟨0, rfl, rfl, Scan.start L m hm1⟩⟩
        case round =>
          obtain ⟨j, hj, rfl, hSj, hst⟩ := hrel
          have HSj := hide hSj
          clear hSj
          rcases hst with ⟨r, rfl, rfl, hsc⟩ | ⟨f, r, rfl, rfl, hgap⟩
          · have hrj := hsc.1
            have hrm := hsc.2.1
            have Hsc := hide hsc
            clear hsc
            by_cases hj40 : j < 40
            · cases hT : taken L j with
              | true =>
                have hat : 0 ≤ atL L j := (atL_taken j).2 hT
                have HT := hide hT
                clear hT
                have hnm : ((0 : Int) == m) = false := by simp; omega
                go_wp2_with (go_at_call 11; refine (Tryd.At_st HSj.out _).mono ?_; rintro e w5 ⟨rfl, hS5⟩)
                have HS5 := hide hS5
                clear hS5
                go_roundw
                case rel => exact ⟨j + 1, by omega, by go_num, HS5.out, .inl ⟨0, rfl, rfl, Hsc.out.hit HT.out⟩⟩
                case measure => simp [intOf]; omega
              | false =>
                have hat : atL L j < 0 := by
                  have := (atL_taken (L := L) j).1
                  rcases Int.lt_or_le (atL L j) 0 with h | h
                  · exact h
                  · rw [this h] at hT; cases hT
                have HT := hide hT
                clear hT
                by_cases hr1 : r + 1 = m
                · have hnm : ((r : Int) + 1 == m) = true := by simp; omega
                  have Hr1 := hide hr1
                  clear hr1
                  go_wp2_with (go_at_call 11; refine (Tryd.At_st HSj.out _).mono ?_; rintro e w5 ⟨rfl, hS5⟩)
                  have HS5 := hide hS5
                  clear hS5
                  go_roundw
                  case rel => exact ⟨j + 1, by omega, by go_num, HS5.out, .inr ⟨j + 1 - m, _, rfl, by have := Hr1.out; go_num, Hsc.out.found HT.out Hr1.out hj40⟩⟩
                  case measure => simp [intOf]; omega
                · have hnm : ((r : Int) + 1 == m) = false := by simp; omega
                  have Hr1 := hide hr1
                  clear hr1
                  go_wp2_with (go_at_call 11; refine (Tryd.At_st HSj.out _).mono ?_; rintro e w5 ⟨rfl, hS5⟩)
                  have HS5 := hide hS5
                  clear hS5
                  go_roundw
                  case rel => exact ⟨j + 1, by omega, by go_num, HS5.out, .inl ⟨r + 1, by go_num, rfl, Hsc.out.miss HT.out Hr1.out⟩⟩
                  case measure => simp [intOf]; omega
            · obtain rfl : j = 40 := by omega
              have hc := Tryd.Insert_st HSj.out 7 m (by omega)
              have hno := gapAt_no Hsc.out.2.2.2.1
              rw [show insC 40 L 7 m = (0, 8) by unfold insC; rw [if_neg (by omega), show (m : Int).toNat = m from rfl, hno]] at hc
              have Hc := hide hc
              clear hc hno
              go_wp2_with (go_at_call 12; refine Hc.out.mono ?_; rintro e w5 ⟨rfl, hS5⟩)
              have HB := hide hS5.below
              clear hS5
              go_ret
              exact ⟨rfl, HB.out⟩
          · obtain ⟨hg1, hg2⟩ := gapAt_some hgap
            have hc := Tryd.Insert_st HSj.out 7 m (by omega)
            have e1 : insC 40 L 7 m = ((f : Int), 0) := by unfold insC; rw [if_neg (by omega), show (m : Int).toNat = m from rfl, hgap]
            have e2 : insL 40 L 7 m = insW L (7, f, m) := by unfold insL; rw [if_neg (by omega), show (m : Int).toNat = m from rfl, hgap]; rfl
            rw [e1, e2] at hc
            have hat : ∀ w5, St w w5 b 40 (insW L (7, f, m)) → ∀ t : Int, inT (7, f, m) t = true → atL (insW L (7, f, m)) t = 7 := fun w5 h t ht => atL_mem h.ok (by simp [insW]) ht
            have i1 : inT (7, f, m) f = true := by simp [inT]; omega
            have i2 : inT (7, f, m) ((f : Int) + m - 1) = true := by simp [inT]; omega
            have Hc := hide hc
            have Hat := hide hat
            have I1 := hide i1
            have I2 := hide i2
            clear hc hgap e1 e2 hg2 hat i1 i2
            by_cases hj40 : j < 40
            all_goals
              go_wp2_with fail
              refine Hc.out.mono ?_
              rintro e w5 ⟨rfl, hS5⟩
              have HS5 := hide hS5
              clear hS5
              go_wp2_with fail
              have ha := Tryd.At_st HS5.out f
              rw [Hat.out w5 HS5.out _ I1.out] at ha
              refine ha.mono ?_
              clear ha
              rintro e w6 ⟨rfl, hS6⟩
              have HS6 := hide hS6
              clear hS6
              go_wp2_with fail
              have ha := Tryd.At_st HS6.out ((f : Int) + m - 1)
              rw [Hat.out w6 HS6.out _ I2.out] at ha
              refine ha.mono ?_
              clear ha
              rintro e w7 ⟨rfl, hS7⟩
              have HB := hide hS7.below
              clear hS7
              go_wp2
              go_ret
              exact ⟨rfl, HB.out⟩
end Go.Proofs
