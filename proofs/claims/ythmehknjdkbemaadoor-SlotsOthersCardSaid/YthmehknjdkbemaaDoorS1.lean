/- Contracts of bits.Put, bitmap.Put, bitmap.Has, slots.mark, slots.may over a table's block. -/
import Derived.Test.YthmehknjdkbemaaDoorProg
import Derived.Test.YthmehknjdkbemaaDoorBase
import Derived.WalkKit
import Derived.BigQuiet
import Derived.Deep.QuietTactic
import Derived.WalkSpells
import Derived.Deep.RegionWith
namespace Go.Proofs
open Go.RowKit Go.Tr

theorem Tryd.within_yes (a x y : Int) (w : World) (h1 : x ≤ a) (h2 : a ≤ y) :
    Calls Tryd.prog 59 #[.int .i64 a, .int .i64 x, .int .i64 y] w fun e w' => e = .returned (.bool true) ∧ w = w' := by
  go_enter Tryd.func59, Tryd.ntmps59
  go_wp2
  go_ret
  exact ⟨rfl, rfl⟩

theorem Tryd.mask_one (a : Int) (w : World) (h1 : 0 ≤ a) (h2 : a ≤ 63) :
    Calls Tryd.prog 53 #[.int .i64 a, .int .i64 1] w fun e w' => e = .returned (.tuple #[.int .u64 1, .bool true]) ∧ w = w' := by
  go_enter Tryd.func53, Tryd.ntmps53
  have h3 : 1 ≤ 64 - a := by omega
  go_wp2_with (go_at_call 59; refine (Tryd.within_yes _ _ _ _ (by omega) (by omega)).mono ?_; rintro e w' ⟨rfl, rfl⟩)
  go_ret2
  exact ⟨by simp, rfl⟩

theorem Tryd.put_one (x b a : Int) (w : World) (h1 : 0 ≤ a) (h2 : a ≤ 63) (h3 : 0 ≤ b) (h4 : b ≤ 1) :
    Calls Tryd.prog 39 #[.int .u64 x, .int .u64 b, .int .i64 a, .int .i64 1] w fun e w' => e = .returned (.tuple #[.int .u64 (putB x b a), .bool true]) ∧ ∃ q, w' = w.drewN q := by
  have hb : (bits BinOp.andNot IntKind.u64 b 1 != 0) = false := by
    have : b = 0 ∨ b = 1 := by omega
    rcases this with rfl | rfl <;> decide
  go_enter Tryd.func39, Tryd.ntmps39
  go_wp2_with (go_at_call 53; refine (Tryd.mask_one _ _ (by omega) (by omega)).mono ?_; rintro e w' ⟨rfl, rfl⟩)
  go_quiet (fail)
  go_wp2
  go_ret2
  exact ⟨rfl, _, rfl⟩

theorem Tryd.Put_in (B o : Nat) (X n : Int) (on : Bool) (w : World) (h1 : 0 ≤ n) (h2 : n < 256)
    (hc : w.cell? ⟨B, o + (n / 64).toNat, none⟩ = some (.int .u64 X)) (hf : w.frozen? ⟨B, o + (n / 64).toNat, none⟩ = false) :
    Calls Tryd.prog 34 #[.pointer (some ⟨B, o, none⟩), .int .i64 n, .bool on] w fun e w' => e = .returned (.bool true) ∧
      ∃ q, w' = (w.drewN q).setCell ⟨B, o + (n / 64).toNat, none⟩ (.int .u64 (putB X (if on then 1 else 0) (n % 64))) := by
  have h3 : 0 ≤ n / 64 := by omega
  have h4 : n / 64 < 4 := by omega
  cases on
  all_goals
    go_enter Tryd.func34, Tryd.ntmps34
    go_wp2_with (go_at_call 39; refine (Tryd.put_one _ _ _ _ (by omega) (by omega) (by omega) (by omega)).mono ?_; rintro e w' ⟨rfl, q, rfl⟩)
    go_ret
    exact ⟨rfl, _, rfl⟩

/-- a table's block: its ticks, the set of taken ticks, its windows' slice -/
def tabCells (N : Nat) (S : Nat → Bool) (sl : Value) : Array Value :=
  #[.int .i64 N, .int .u64 (wd S 0), .int .u64 (wd S 1), .int .u64 (wd S 2), .int .u64 (wd S 3), sl]
def TabX (w : World) (b N : Nat) (S : Nat → Bool) (sl : Value) : Prop := Blk w b 56 (tabCells N S sl)
/-- a set with the numbers from f on, l of them, put in or taken out -/
def upR (S : Nat → Bool) (f l : Nat) (on : Bool) : Nat → Bool := fun k => if f ≤ k ∧ k < f + l then on else S k

theorem tabCells_word (N : Nat) (S : Nat → Bool) (sl : Value) (i : Nat) (hi : i < 4) : (tabCells N S sl)[1 + i]? = some (.int .u64 (wd S i)) := by
  match i, hi with
  | 0, _ => rfl
  | 1, _ => rfl
  | 2, _ => rfl
  | 3, _ => rfl

theorem tabCells_set (N : Nat) (S : Nat → Bool) (sl : Value) (n : Nat) (hn : n < 256) (on : Bool) :
    (tabCells N S sl).setIfInBounds (1 + n / 64) (.int .u64 (wd (upd S n on) (n / 64))) = tabCells N (upd S n on) sl := by
  have hi : n / 64 < 4 := by omega
  have h := fun i (hne : i ≠ n / 64) => wd_other S n i on hne
  generalize n / 64 = i at hi h ⊢
  match i, hi with
  | 0, _ => simp [tabCells, h 1, h 2, h 3]
  | 1, _ => simp [tabCells, h 0, h 2, h 3]
  | 2, _ => simp [tabCells, h 0, h 1, h 3]
  | 3, _ => simp [tabCells, h 0, h 1, h 2]

theorem upR_one (S : Nat → Bool) (n : Nat) (on : Bool) : upR S n 1 on = upd S n on := by
  funext k
  unfold upR upd
  by_cases h : k = n
  · rw [if_pos (by omega), if_pos h]
  · rw [if_neg (by omega), if_neg h]

theorem upR_zero (S : Nat → Bool) (f : Nat) (on : Bool) : upR S f 0 on = S := by
  funext k
  unfold upR
  rw [if_neg (by omega)]

theorem upR_succ (S : Nat → Bool) (f k : Nat) (on : Bool) : upd (upR S f k on) (f + k) on = upR S f (k + 1) on := by
  funext j
  unfold upR upd
  dsimp only
  by_cases h : j = f + k
  · rw [if_pos h, if_pos (by omega)]
  · rw [if_neg h]
    by_cases h' : f ≤ j ∧ j < f + k
    · rw [if_pos h', if_pos (by omega)]
    · rw [if_neg h', if_neg (by omega)]

theorem TabX.drewN {w : World} {b N : Nat} {S : Nat → Bool} {sl : Value} (h : TabX w b N S sl) (n : Nat) : TabX (w.drewN n) b N S sl := h
theorem TabX.drew {w : World} {b N : Nat} {S : Nat → Bool} {sl : Value} (h : TabX w b N S sl) : TabX w.drew b N S sl := h
theorem TabX.alloc {w : World} {b N : Nat} {S : Nat → Bool} {sl : Value} (h : TabX w b N S sl) (o : Obj) : TabX (w.alloc o) b N S sl := Blk.alloc h o

theorem Tryd.Put_tab (b N : Nat) (S : Nat → Bool) (sl : Value) (n : Int) (on : Bool) (w : World) (h1 : 0 ≤ n) (h2 : n < 256) (ht : TabX w b N S sl) :
    Calls Tryd.prog 34 #[.pointer (some ⟨b, 1, none⟩), .int .i64 n, .bool on] w fun e w' => e = .returned (.bool true) ∧
      TabX w' b N (upd S n.toNat on) sl ∧ Fr (fun k => k = b) w w' := by
  obtain ⟨m, rfl⟩ := Int.eq_ofNat_of_zero_le h1
  have e1 : ((m : Int) / 64).toNat = m / 64 := by omega
  have hc := (Blk.cell ht (1 + m / 64)).trans (tabCells_word N S sl (m / 64) (by omega))
  have hf := Blk.frozen ht (1 + m / 64)
  rw [← e1] at hc hf
  refine (Tryd.Put_in b 1 _ _ on w h1 h2 hc hf).mono ?_
  rintro e w' ⟨rfl, q, rfl⟩
  rw [e1] at *
  have e2 : (m : Int) % 64 = ((m % 64 : Nat) : Int) := by omega
  rw [e2, putB_nat _ _ on (wd_lt S _) (by omega), setN_wd]
  refine ⟨rfl, ?_, ?_⟩
  · have := Blk.set (Blk.drewN ht q) (1 + m / 64) (.int .u64 (wd (upd S m on) (m / 64)))
    rw [tabCells_set N S sl m (by omega) on] at this
    exact this
  · exact ((Fr.refl (fun k => k = b) w).drewN q).setCell (p := ⟨b, 1 + m / 64, none⟩) (fun _ => rfl) _

set_option maxHeartbeats 400000 in
theorem Tryd.mark_in (b N : Nat) (S : Nat → Bool) (sl : Value) (p f l : Nat) (on : Bool) (w : World) (hl : f + l ≤ 256) (ht : TabX w b N S sl) :
    Calls Tryd.prog 27 #[.pointer (some ⟨b, 0, none⟩), .agg #[.int .i64 p, .int .i64 f, .int .i64 l], .bool on] w fun e w' => e = .returned (.tuple #[]) ∧
      TabX w' b N (upR S f l on) sl ∧ Fr (fun k => k = b) w w' := by
  have hbw := Blk.lt ht
  go_enter Tryd.func27, Tryd.ntmps27
  go_wp2
  go_loopw [6, 9] (fun _ i wr => ∃ k : Nat, k ≤ l ∧ i = .int .i64 k ∧ TabX wr b N (upR S f k on) sl ∧ Fr (fun k => k = b) w wr ∧ w.heap.size < wr.heap.size ∧ wr.cell? ⟨w.heap.size, 1, none⟩ = some (.int .i64 f)) (fun _ i _ => l - (intOf i).toNat)
  case atStart => exact ⟨0, Nat.zero_le _, rfl, by rw [upR_zero]; exact ht.alloc _, (Fr.refl _ w).alloc _, by simp, (Blk.new w _ _).cell 1⟩
  case round =>
    obtain ⟨k, hk, rfl, hT, hF, hz, hc⟩ := hrel
    by_cases hlt : k < l
    · have hw : IntKind.i64.wrap ((f : Int) + k) = f + k := i64w (by omega) (by omega)
      go_wp2
      go_region_with (go_at_call 34; refine (Tryd.Put_tab b N _ sl _ on _ (by omega) (by omega) hT.drew).mono ?_; rintro e w' ⟨rfl, hT', hF'⟩)
      go_wp2
      go_roundw
      case rel =>
        refine ⟨k + 1, hlt, by go_num, ?_, hF.trans (((Fr.refl _ wr).drew).trans hF'), Nat.lt_of_lt_of_le hz hF'.size, ?_⟩
        · rw [← upR_succ]; exact hT'
        · exact (hF'.cell (p := ⟨w.heap.size, 1, none⟩) hz (by simp; omega)).trans hc
      case measure => simp [intOf]; omega
    · obtain rfl : k = l := by omega
      go_wp2
      go_end0
      exact ⟨rfl, hT, hF⟩

end Go.Proofs
