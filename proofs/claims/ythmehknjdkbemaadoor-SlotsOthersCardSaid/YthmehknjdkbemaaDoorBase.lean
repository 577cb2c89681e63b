/- Words for memory (a block known whole; what a call may turn) and the bits of a set of numbers: lemmas alone, no statement of the program. -/
import Derived.WalkKit
import Derived.Deep.Draws
import Derived.Laws.BitsAllLaws
namespace Go.Tr
open Go.RowKit

/-- block g is just these cells, none frozen -/
def Blk (w : World) (g : Nat) (t : TypeId) (cs : Array Value) : Prop := w.heap[g]? = some (.cells cs t (0, 0))

/-- only blocks that F names, and new ones, have turned -/
structure Fr (F : Nat → Prop) (w w' : World) : Prop where
  os : w'.os = w.os
  tape : w'.tape = w.tape
  output : w'.output = w.output
  size : w.heap.size ≤ w'.heap.size
  block : ∀ k, k < w.heap.size → ¬ F k → w'.heap[k]? = w.heap[k]?

section
variable {F G : Nat → Prop} {w w' w'' : World} {g : Nat} {t : TypeId} {cs : Array Value}
theorem Fr.refl (F : Nat → Prop) (w : World) : Fr F w w := ⟨rfl, rfl, rfl, Nat.le_refl _, fun _ _ _ => rfl⟩
theorem Fr.trans_new (h : Fr F w w') (h' : Fr G w' w'') (hG : ∀ k, k < w.heap.size → G k → F k) : Fr F w w'' :=
  ⟨h'.os.trans h.os, h'.tape.trans h.tape, h'.output.trans h.output, Nat.le_trans h.size h'.size,
    fun k hk hn => (h'.block k (Nat.lt_of_lt_of_le hk h.size) (fun hg => hn (hG k hk hg))).trans (h.block k hk hn)⟩
theorem Fr.trans (h : Fr F w w') (h' : Fr F w' w'') : Fr F w w'' := h.trans_new h' fun _ _ h => h
theorem Fr.mono (h : Fr F w w') (hG : ∀ k, k < w.heap.size → F k → G k) : Fr G w w' :=
  ⟨h.os, h.tape, h.output, h.size, fun k hk hn => h.block k hk fun hf => hn (hG k hk hf)⟩
theorem Fr.drew (h : Fr F w w') : Fr F w w'.drew := ⟨h.os, h.tape, h.output, h.size, h.block⟩
theorem Fr.drewN (h : Fr F w w') (n : Nat) : Fr F w (w'.drewN n) := ⟨h.os, h.tape, h.output, h.size, h.block⟩
theorem Fr.alloc (h : Fr F w w') (o : Obj) : Fr F w (w'.alloc o) :=
  ⟨h.os, h.tape, h.output, Nat.le_trans h.size (by simp), fun k hk hn => (Below.heap_alloc w' o k (Nat.lt_of_lt_of_le hk h.size)).trans (h.block k hk hn)⟩
theorem Fr.setCell (h : Fr F w w') {p : Addr} (hp : p.block < w.heap.size → F p.block) (u : Value) : Fr F w (w'.setCell p u) :=
  ⟨h.os, h.tape, h.output, by simpa [World.setCell] using h.size, fun k hk hn =>
    (Below.heap_setCell w' p u k (fun e => hn (by subst e; exact hp hk))).trans (h.block k hk hn)⟩
theorem Fr.of_grownBy {row : Option Nat} (h : w.grownBy w' row) (hr : ∀ k, row = some k → k < w.heap.size → F k) : Fr F w w' :=
  ⟨h.os, h.tape, h.output, h.size, fun k hk hn => h.block k hk fun e => hn (hr k e.symm hk)⟩
theorem Fr.of_below {B : Nat} (h : Below B w w') (hF : ∀ k, k < w.heap.size → B ≤ k → F k) : Fr F w w' :=
  ⟨h.os, h.tape, h.output, h.size, fun k hk hn => h.block k (by
    rcases Nat.lt_or_ge k B with hb | hb
    · exact hb
    · exact absurd (hF k hk hb) hn)⟩
theorem Fr.below {B : Nat} (h : Fr F w w') (hB : B ≤ w.heap.size) (hF : ∀ k, k < B → ¬ F k) : Below B w w' :=
  ⟨h.os, h.tape, h.output, h.size, fun k hk => h.block k (by omega) (hF k hk)⟩
theorem Fr.cell (h : Fr F w w') {p : Addr} (hp : p.block < w.heap.size) (hn : ¬ F p.block) : w'.cell? p = w.cell? p :=
  World.cell?_of_block (h.block p.block hp hn)

theorem Blk.lt (h : Blk w g t cs) : g < w.heap.size := by
  rcases Nat.lt_or_ge g w.heap.size with hlt | hge
  · exact hlt
  · unfold Blk at h; rw [Array.getElem?_eq_none hge] at h; cases h
theorem Blk.cell (h : Blk w g t cs) (i : Nat) : w.cell? ⟨g, i, none⟩ = cs[i]? := cell_of_row w g i cs t (0, 0) h
theorem Blk.frozen (h : Blk w g t cs) (i : Nat) : w.frozen? ⟨g, i, none⟩ = false := by
  unfold Blk at h
  simp [World.frozen?, h]
theorem Blk.new (w : World) (t : TypeId) (cs : Array Value) : Blk (w.alloc (.cells cs t)) w.heap.size t cs := heap_alloc_new w _
theorem Blk.drew (h : Blk w g t cs) : Blk w.drew g t cs := h
theorem Blk.drewN (h : Blk w g t cs) (n : Nat) : Blk (w.drewN n) g t cs := h
theorem Blk.alloc (h : Blk w g t cs) (o : Obj) : Blk (w.alloc o) g t cs := (Below.heap_alloc w o g h.lt).trans h
theorem Blk.set (h : Blk w g t cs) (i : Nat) (u : Value) : Blk (w.setCell ⟨g, i, none⟩ u) g t (cs.setIfInBounds i u) := by
  unfold Blk at h ⊢
  simp [World.setCell, Array.getElem?_modify, h]
theorem Blk.far (h : Blk w g t cs) {p : Addr} (hp : g ≠ p.block) (u : Value) : Blk (w.setCell p u) g t cs := (Below.heap_setCell w p u g hp).trans h
theorem Blk.fr (h : Blk w g t cs) (hf : Fr F w w') (hg : ¬ F g) : Blk w' g t cs := (hf.block g h.lt hg).trans h
theorem Blk.ne (h : Blk w g t cs) {g' : Nat} {t' : TypeId} {cs' : Array Value} (h' : Blk w g' t' cs') (hne : t ≠ t') : g ≠ g' := by
  rintro rfl
  unfold Blk at h h'
  rw [h] at h'
  injection h' with h'
  injection h' with _ ht
  exact hne ht
end

theorem hide {p : Prop} (h : p) : Hid p := h
theorem i64w {x : Int} (h1 : -9223372036854775808 ≤ x) (h2 : x ≤ 9223372036854775807) : IntKind.i64.wrap x = x := by rw [IntKind.wrap_i64]; omega

def word (f : Nat → Bool) : Nat → Nat
  | 0 => 0
  | n + 1 => word f n + (if f n then 2 ^ n else 0)

theorem word_lt (f : Nat → Bool) (n : Nat) : word f n < 2 ^ n := by
  induction n with
  | zero => simp [word]
  | succ n ih =>
    rw [word, Nat.pow_succ]
    split <;> omega

theorem word_testBit (f : Nat → Bool) (n j : Nat) : (word f n).testBit j = (decide (j < n) && f j) := by
  induction n with
  | zero => simp [word]
  | succ n ih =>
    have hl := word_lt f n
    rw [word]
    by_cases hf : f n = true
    · rw [if_pos hf, Nat.add_comm, ← Nat.one_mul (2 ^ n), Nat.mul_comm, Nat.testBit_two_pow_mul_add 1 hl]
      by_cases hj : j < n
      · rw [if_pos hj, ih]; simp [hj, show j < n + 1 by omega]
      · rw [if_neg hj]
        by_cases e : j = n
        · subst e; simp [hf]
        · have : j - n ≠ 0 := by omega
          rw [show decide (j < n + 1) = false by simp; omega]
          cases hk : j - n with
          | zero => omega
          | succ k => simp [Nat.testBit_succ]
    · rw [if_neg hf, Nat.add_zero, ih]
      by_cases e : j = n
      · subst e; simp [hf]
      · have : decide (j < n + 1) = decide (j < n) := by simp; omega
        rw [this]

theorem word_congr {f g : Nat → Bool} {n : Nat} (h : ∀ j, j < n → f j = g j) : word f n = word g n := by
  induction n with
  | zero => rfl
  | succ n ih => rw [word, word, ih (fun j hj => h j (by omega)), h n (by omega)]

theorem eq_word {x n : Nat} {f : Nat → Bool} (hx : x < 2 ^ n) (h : ∀ j, j < n → x.testBit j = f j) : x = word f n := by
  apply Nat.eq_of_testBit_eq
  intro j
  rw [word_testBit]
  by_cases hj : j < n
  · simp [hj, h j hj]
  · simp [hj]
    exact Nat.testBit_lt_two_pow (Nat.lt_of_lt_of_le hx (Nat.pow_le_pow_right (by omega) (by omega)))

def putB (x b a : Int) : Int := bits .or .u64 (bits .andNot .u64 x (IntKind.u64.wrap (2 ^ a.toNat))) (IntKind.u64.wrap (b * 2 ^ a.toNat))


theorem wrap_u64_nat (x : Nat) (h : x < 18446744073709551616) : IntKind.u64.wrap (x : Int) = x := by
  simp only [IntKind.wrap, IntKind.bits, IntKind.signed]
  simp
  omega

def setN (X pos : Nat) (b : Bool) : Nat := (X &&& (18446744073709551615 - 2 ^ pos)) ||| (if b then 2 ^ pos else 0)

theorem pow_lt64 {p : Nat} (hp : p < 64) : 2 ^ p < 18446744073709551616 := by
  have : 2 ^ p < 2 ^ 64 := Nat.pow_lt_pow_right (by omega) hp
  simpa using this

theorem putB_nat (X pos : Nat) (b : Bool) (hX : X < 18446744073709551616) (hp : pos < 64) :
    putB (X : Int) (if b then 1 else 0) (pos : Int) = (setN X pos b : Int) := by
  have hpl := pow_lt64 hp
  have hlt : (X &&& (18446744073709551615 - 2 ^ pos)) < 18446744073709551616 := Nat.lt_of_le_of_lt Nat.and_le_left hX
  unfold putB setN
  rw [show ((pos : Int)).toNat = pos from rfl]
  have e1 : IntKind.u64.wrap ((2 : Int) ^ pos) = ((2 ^ pos : Nat) : Int) := by
    rw [show ((2 : Int) ^ pos) = ((2 ^ pos : Nat) : Int) by simp]
    exact wrap_u64_nat _ hpl
  rw [e1, u64_andNot_nat _ _ hX hpl]
  cases b with
  | true =>
    simp only [if_true]
    rw [show (1 : Int) * 2 ^ pos = (2 : Int) ^ pos by simp, e1, u64_or_nat _ _ hlt hpl]
  | false =>
    simp only [Bool.false_eq_true, if_false]
    rw [show (0 : Int) * 2 ^ pos = ((0 : Nat) : Int) by simp, wrap_u64_nat 0 (by omega), u64_or_nat _ _ hlt (by omega)]

theorem testBit_mask (pos j : Nat) (hp : pos < 64) (hj : j < 64) : (18446744073709551615 - 2 ^ pos).testBit j = !decide (j = pos) := by
  have h := Nat.testBit_two_pow_sub_succ (x := 2 ^ pos) (n := 64) (pow_lt64 hp) j
  rw [show (18446744073709551615 - 2 ^ pos) = 2 ^ 64 - (2 ^ pos + 1) by omega, h, Nat.testBit_two_pow]
  simp [hj, eq_comm]

theorem setN_testBit (X pos : Nat) (b : Bool) (hp : pos < 64) (j : Nat) (hj : j < 64) : (setN X pos b).testBit j = if j = pos then b else X.testBit j := by
  unfold setN
  rw [Nat.testBit_or, Nat.testBit_and, testBit_mask pos j hp hj]
  by_cases e : j = pos
  · subst e
    cases b <;> simp
  · cases b
    · simp [e]
    · simp [e, Ne.symm e]

theorem setN_lt (X pos : Nat) (b : Bool) (hX : X < 18446744073709551616) (hp : pos < 64) : setN X pos b < 18446744073709551616 := by
  unfold setN
  have h1 : (X &&& (18446744073709551615 - 2 ^ pos)) < 2 ^ 64 := Nat.lt_of_le_of_lt Nat.and_le_left (by simpa using hX)
  have h2 : (if b = true then 2 ^ pos else 0) < 2 ^ 64 := by
    split
    · simpa using pow_lt64 hp
    · decide
  simpa using Nat.or_lt_two_pow h1 h2

/-- what stands in the i-th word of a set -/
def wd (S : Nat → Bool) (i : Nat) : Nat := word (fun j => S (64 * i + j)) 64

theorem wd_lt (S : Nat → Bool) (i : Nat) : wd S i < 18446744073709551616 := by
  have := word_lt (fun j => S (64 * i + j)) 64
  unfold wd
  simpa using this

theorem wd_testBit (S : Nat → Bool) (i j : Nat) (hj : j < 64) : (wd S i).testBit j = S (64 * i + j) := by
  unfold wd
  rw [word_testBit]
  simp [hj]

def upd (S : Nat → Bool) (n : Nat) (b : Bool) : Nat → Bool := fun k => if k = n then b else S k

theorem setN_wd (S : Nat → Bool) (n : Nat) (b : Bool) : setN (wd S (n / 64)) (n % 64) b = wd (upd S n b) (n / 64) := by
  refine eq_word (by simpa using setN_lt _ _ b (wd_lt S _) (by omega)) fun j hj => ?_
  rw [setN_testBit _ _ _ (by omega) j hj, wd_testBit _ _ _ hj]
  unfold upd
  have := Nat.div_add_mod n 64
  by_cases e : j = n % 64
  · rw [if_pos e, if_pos (by omega)]
  · rw [if_neg e, if_neg (by omega)]

theorem wd_other (S : Nat → Bool) (n i : Nat) (b : Bool) (h : i ≠ n / 64) : wd (upd S n b) i = wd S i := by
  unfold wd
  refine word_congr fun j hj => ?_
  unfold upd
  rw [if_neg (by omega)]

theorem wd_congr {S T : Nat → Bool} {i : Nat} (h : ∀ j, j < 64 → S (64 * i + j) = T (64 * i + j)) : wd S i = wd T i := word_congr h

end Go.Tr
