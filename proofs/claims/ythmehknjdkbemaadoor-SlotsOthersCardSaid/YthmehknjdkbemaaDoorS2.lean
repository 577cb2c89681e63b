/- Contracts of bitmap.Has, slots.may, slots.New; what a table is in memory. -/
import Derived.Test.YthmehknjdkbemaaDoorS1
namespace Go.Proofs
open Go.RowKit Go.Tr

theorem ret_bool {a b : Bool} (h : a = b) : Ending.returned (.bool a) = .returned (.bool b) := by rw [h]
theorem ret_int {k : IntKind} {a b : Int} (h : a = b) : Ending.returned (.int k a) = .returned (.int k b) := by rw [h]

theorem bit_test (X p : Nat) (hX : X < 18446744073709551616) : (bits BinOp.and IntKind.u64 ((X : Int) / 2 ^ p) 1 == 1) = X.testBit p := by
  have e : ((X : Int) / 2 ^ p) = ((X / 2 ^ p : Nat) : Int) := by simp
  have hd : X / 2 ^ p ≤ X := Nat.div_le_self _ _
  have hq : (X / 2 ^ p : Nat) < 18446744073709551616 := Nat.lt_of_le_of_lt hd hX
  rw [e]
  generalize hY : X / 2 ^ p = Y at *
  rw [u64_and _ 1 (by omega) (by omega) (by omega) (by omega)]
  rw [show (Y : Int).toNat = Y from rfl, show (1 : Int).toNat = 1 from rfl, Nat.testBit_eq_decide_div_mod_eq, Nat.and_one_is_mod, hY]
  rw [Bool.eq_iff_iff]
  simp
  omega

theorem Tryd.Has_in (B o : Nat) (X : Nat) (n : Int) (w : World) (h1 : 0 ≤ n) (h2 : n < 256) (hX : Hid (X < 18446744073709551616))
    (hc : w.cell? ⟨B, o + (n / 64).toNat, none⟩ = some (.int .u64 X)) :
    Calls Tryd.prog 26 #[.pointer (some ⟨B, o, none⟩), .int .i64 n] w fun e w' => e = .returned (.bool (X.testBit (n % 64).toNat)) ∧ w = w' := by
  have h3 : 0 ≤ n / 64 := by omega
  have h4 : n / 64 < 4 := by omega
  go_enter Tryd.func26, Tryd.ntmps26
  go_wp2
  go_ret
  exact ⟨ret_bool (bit_test _ _ hX.out), rfl⟩

theorem Tryd.Has_tab (b N : Nat) (S : Nat → Bool) (sl : Value) (n : Int) (w : World) (h1 : 0 ≤ n) (h2 : n < 256) (ht : TabX w b N S sl) :
    Calls Tryd.prog 26 #[.pointer (some ⟨b, 1, none⟩), .int .i64 n] w fun e w' => e = .returned (.bool (S n.toNat)) ∧ w = w' := by
  obtain ⟨m, rfl⟩ := Int.eq_ofNat_of_zero_le h1
  have e1 : ((m : Int) / 64).toNat = m / 64 := by omega
  have hc := (Blk.cell ht (1 + m / 64)).trans (tabCells_word N S sl (m / 64) (by omega))
  rw [← e1] at hc
  refine (Tryd.Has_in b 1 _ _ w h1 h2 (hide (wd_lt S _)) hc).mono ?_
  rintro e w' ⟨rfl, rfl⟩
  refine ⟨ret_bool ?_, rfl⟩
  rw [e1, show ((m : Int) % 64).toNat = m % 64 by omega, wd_testBit _ _ _ (by omega)]
  rw [show 64 * (m / 64) + m % 64 = m by omega]
  rfl

theorem Tryd.may_yes (a : Int) (w : World) (h1 : 0 ≤ a) (h2 : a < 8) :
    Calls Tryd.prog 25 #[.int .i64 a] w fun e w' => e = .returned (.bool true) ∧ w = w' := by
  go_enter Tryd.func25, Tryd.ntmps25
  go_wp2
  go_ret
  exact ⟨rfl, rfl⟩
theorem Tryd.may_no (a : Int) (w : World) (h : a < 0 ∨ 8 ≤ a) :
    Calls Tryd.prog 25 #[.int .i64 a] w fun e w' => e = .returned (.bool false) ∧ w = w' := by
  rcases h with h | h
  · go_enter Tryd.func25, Tryd.ntmps25
    go_wp2
    go_ret
    exact ⟨rfl, rfl⟩
  · have h0 : 0 ≤ a := by omega
    go_enter Tryd.func25, Tryd.ntmps25
    go_wp2
    go_ret
    exact ⟨ret_bool (by simp; omega), rfl⟩

/-- a window: whose, from where, how long -/
abbrev Win := Nat × Nat × Nat
def encW (x : Win) : List Value := [.int .i64 x.1, .int .i64 x.2.1, .int .i64 x.2.2]
def rowW (L : List Win) : List Value := L.flatMap encW
def inW (x : Win) (k : Nat) : Bool := decide (x.2.1 ≤ k) && decide (k < x.2.1 + x.2.2)
def taken (L : List Win) : Nat → Bool := fun k => L.any fun x => inW x k

/-- the windows' slice: L, in a block of its own -/
def WinsAt (w : World) (F : Nat → Prop) (A : Option Addr) (c : Nat) (L : List Win) : Prop :=
  w.ownsRow 0 58 3 (.slice A L.length c) L.length (rowW L) ∧ ∀ a, A = some a → F a.block

/-- the table at block b: its ticks, its windows -/
def Tab (w : World) (F : Nat → Prop) (b N : Nat) (L : List Win) : Prop :=
  ∃ A c, TabX w b N (taken L) (.slice A L.length c) ∧ WinsAt w F A c L ∧ F b

theorem Tryd.New_no (n : Int) (w : World) (h : n < 1 ∨ 256 < n) :
    Calls Tryd.prog 9 #[.int .i64 n] w fun e w' => e = .returned (.tuple #[.pointer none, .int .i64 1]) ∧ w = w' := by
  rcases h with h | h
  · go_enter Tryd.func9, Tryd.ntmps9
    go_wp2
    go_ret2
    exact ⟨rfl, rfl⟩
  · have h0 : 1 ≤ n := by omega
    go_enter Tryd.func9, Tryd.ntmps9
    go_wp2
    go_ret2
    exact ⟨rfl, rfl⟩
theorem Tryd.New_yes (n : Nat) (w : World) (h1 : 1 ≤ n) (h2 : n ≤ 256) :
    Calls Tryd.prog 9 #[.int .i64 n] w fun e w' => e = .returned (.tuple #[.pointer (some ⟨w.heap.size, 0, none⟩), .int .i64 0]) ∧
      Tab w' (fun k => k = w.heap.size) w.heap.size n [] ∧ Fr (fun _ => False) w w' := by
  go_enter Tryd.func9, Tryd.ntmps9
  go_wp2
  go_ret2
  refine ⟨rfl, ⟨none, 0, ?_, ⟨World.ownsRow_nil _ _ _ _, fun a h => by cases h⟩, rfl⟩, (Fr.refl _ w).alloc _⟩
  have h : ∀ i, wd (taken []) i = 0 := fun i => by
    have : word (fun j => false) 64 = 0 := by decide
    exact this
  have e : tabCells n (taken []) (.slice none 0 0) = #[.int .i64 n, .int .u64 0, .int .u64 0, .int .u64 0, .int .u64 0, .slice none 0 0] := by
    simp [tabCells, h]
  unfold TabX
  rw [show ([] : List Win).length = 0 from rfl, e]
  exact Blk.new w _ _
end Go.Proofs
