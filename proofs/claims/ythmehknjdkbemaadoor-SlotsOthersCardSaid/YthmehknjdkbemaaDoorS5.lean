/- The contract of bitmap.Gap: the first gap that is long enough. -/
import Derived.Test.YthmehknjdkbemaaDoorS4
namespace Go.Proofs
open Go.RowKit Go.Shelf Go.Tr
attribute [local go_sem] Oper.semAt_some

theorem below_put {s0 D : Nat} {w W : World} (hB : Below s0 w W) (hs : s0 ≤ w.heap.size) (hD : s0 ≤ D) (o : Obj) : Below s0 w (W.putObj D o) :=
  hB.grown (grownBy_putObj' W D o) (Nat.le_trans hs hB.size) (fun k e => by cases e; exact hD)

def nums (l : List Num) : List Nat := l.map (·.1)
theorem nums_snoc (l : List Num) (x : Num) : nums (l ++ [x]) = nums l ++ [x.1] := by simp [nums]
/-- between two rounds of Gap's loop -/
def GapI (m e s0 : Nat) (w : World) (pre : List Num) (W : World) : Prop :=
  ∃ f : Nat, gapRun m e (nums pre) = some f ∧ f ≤ 256 ∧ Boxed W (s0 + 1 + 1) 3 (.int .i64 f) ∧ Boxed W s0 3 (.int .i64 m) ∧ Boxed W (s0 + 1) 3 (.int .i64 e) ∧ Below s0 w W
/-- where it has broken off -/
def GapIx (m e s0 : Nat) (w : World) (c : Code) (pre : List Num) (W : World) : Prop :=
  ∃ (ini : List Num) (x : Num) (f : Nat), c = .exit 0 ∧ pre = ini ++ [x] ∧ gapRun m e (nums ini) = some f ∧ f ≤ 256 ∧ (e ≤ x.1 ∨ f + m ≤ x.1) ∧ Boxed W (s0 + 1 + 1) 3 (.int .i64 f) ∧ Boxed W s0 3 (.int .i64 m) ∧ Boxed W (s0 + 1) 3 (.int .i64 e) ∧ Below s0 w W
theorem boxed_kept {t : TypeId} {B D : Nat} {v : Value} {W W' : World} {row : Option Nat} (h : Boxed W B t v) (hg : W.grownBy W' row) (hr : ∀ r, row = some r → D ≤ r ∧ ∃ o : Obj, W.heap[r]? = some o ∧ o.isCells = false) : Boxed W' B t v :=
  h.kept hg (fun e => by obtain ⟨_, o, ho, hc⟩ := hr B e.symm; rw [show W.heap[B]? = _ from h] at ho; cases ho; cases hc)
theorem GapI.own (m e s0 D : Nat) (w : World) (h0 : s0 ≤ w.heap.size) (hD : s0 ≤ D) : OwnFrom D (GapI m e s0 w) := by
  rintro pre W W' row ⟨f, h1, h2, h3, h4, h5, h6⟩ hg hr
  exact ⟨f, h1, h2, boxed_kept h3 hg hr, boxed_kept h4 hg hr, boxed_kept h5 hg hr, h6.grown hg (Nat.le_trans h0 h6.size) (fun k e => Nat.le_trans hD (hr k e).1)⟩
theorem GapIx.own (m e s0 D : Nat) (w : World) (c : Code) (h0 : s0 ≤ w.heap.size) (hD : s0 ≤ D) : OwnFrom D (GapIx m e s0 w c) := by
  rintro pre W W' row ⟨ini, x, f, h1, h2, h3, h4, h5, h6, h7, h8, h9⟩ hg hr
  exact ⟨ini, x, f, h1, h2, h3, h4, h5, boxed_kept h6 hg hr, boxed_kept h7 hg hr, boxed_kept h8 hg hr, h9.grown hg (Nat.le_trans h0 h9.size) (fun k e => Nat.le_trans hD (hr k e).1)⟩
theorem GapI.step {m e s0 f : Nat} {w W : World} {pre : List Num} {x : Num} (hf : gapRun m e (nums pre) = some f) (hx1 : x.1 < e) (hx2 : x.1 < f + m)
    (cF : Boxed W (s0 + 1 + 1) 3 (.int .i64 f)) (cM : Boxed W s0 3 (.int .i64 m)) (cE : Boxed W (s0 + 1) 3 (.int .i64 e)) (hB : Below s0 w W) :
    GapI m e s0 w (pre ++ [x]) (W.setCell ⟨s0 + 1 + 1, 0, none⟩ (.int .i64 ((x.1 : Int) + 1))) := by
  refine ⟨x.1 + 1, ?_, by have := x.2; omega, cF.set _, cM.other (by omega) _, cE.other (by omega) _, hB.setCell (p := ⟨s0 + 1 + 1, 0, none⟩) (by simp; omega) _⟩
  rw [nums_snoc, gapRun_snoc, hf, Option.bind_some, if_neg (by omega)]

set_option maxRecDepth 100000 in
set_option maxHeartbeats 1000000 in
theorem Tryd.Gap_wide (b N m e : Nat) (S : Nat → Bool) (sl : Value) (w : World) (h1 : 1 ≤ m) (hm : m ≤ 9223372036854775807) (he : e ≤ 256) (hT : TabX w b N S sl) (hTb : Tbl w) :
    CallsIn Fence.wide 9 Tryd.prog 30 #[.pointer (some ⟨b, 1, none⟩), .int .i64 m, .int .i64 e] w fun e' W' => (∃ r, e' = .returned (.int .i64 r) ∧ GapSpec S m e r) ∧ Below w.heap.size w W' := by
  refine callsIn_of_wp_marks Tryd.func30 rfl trivial ?_ rfl
  simp only [Tryd.ntmps30, List.size_toArray, List.length_cons, List.length_nil, Nat.reduceAdd, Nat.reduceSub, Array.replicate_succ, Array.replicate_zero, List.push_toArray, List.append_toArray, List.nil_append, List.cons_append]
  have hT' := hide hT
  have hTb' := hide hTb
  clear hT hTb
  have : Fence.wide.fn 38 := trivial
  have hm1 : decide ((m : Int) < 1) = false := decide_eq_false (by omega)
  have he1 : decide ((e : Int) < 0) = false := decide_eq_false (by omega)
  have he2 : decide (256 < (e : Int)) = false := decide_eq_false (by omega)
  gi_wp2_with (gi_at_call 38; refine (Tryd.All_in _ _ _).mono ?_; rintro e w' ⟨rfl, rfl⟩)
  obtain ⟨s0, hs0⟩ : ∃ s0, s0 = w.heap.size := ⟨_, rfl⟩
  have hbs : b < s0 := by rw [hs0]; exact Blk.lt hT'.out
  have hps : 0 < s0 := by rw [hs0]; exact hTb'.out.pos
  have bM := Boxed.new w 3 (.int .i64 m)
  have bE := Boxed.new (w.alloc (.cells #[.int .i64 m] 3)) 3 (.int .i64 e)
  have bF := Boxed.new ((w.alloc (.cells #[.int .i64 m] 3)).alloc (.cells #[.int .i64 e] 3)) 3 (.int .i64 0)
  have bS := Boxed.new (((w.alloc (.cells #[.int .i64 m] 3)).alloc (.cells #[.int .i64 e] 3)).alloc (.cells #[.int .i64 0] 3)) 67 (.pointer (some ⟨b, 1, none⟩))
  have hB0 : Below w.heap.size w ((((w.alloc (.cells #[.int .i64 m] 3)).alloc (.cells #[.int .i64 e] 3)).alloc (.cells #[.int .i64 0] 3)).alloc (.cells #[.pointer (some ⟨b, 1, none⟩)] 67)) :=
    ((((Below.refl _ w).alloc (Nat.le_refl _) _).alloc (by simp) _).alloc (by simp; omega) _).alloc (by simp; omega) _
  rw [World.size_alloc] at bE
  rw [World.size_alloc, World.size_alloc] at bF
  rw [World.size_alloc, World.size_alloc, World.size_alloc] at bS
  rw [← hs0] at bM bE bF bS ⊢
  have hB0' := hB0
  rw [← hs0] at hB0
  have hs0' := hide hs0
  have hsw : s0 ≤ w.heap.size := by omega
  have hsw2 : s0 ≤ ((((w.alloc (.cells #[.int .i64 m] 3)).alloc (.cells #[.int .i64 e] 3)).alloc (.cells #[.int .i64 0] 3)).alloc (.cells #[.pointer (some ⟨b, 1, none⟩)] 67)).heap.size := by simp; omega
  have hDa : s0 + 1 + 1 + 1 + 1 ≤ ((((w.alloc (.cells #[.int .i64 m] 3)).alloc (.cells #[.int .i64 e] 3)).alloc (.cells #[.int .i64 0] 3)).alloc (.cells #[.pointer (some ⟨b, 1, none⟩)] 67)).heap.size := by simp; omega
  have hDb : (w.alloc (.cells #[.int .i64 m] 3)).heap.size = s0 + 1 := by rw [hs0]; exact World.size_alloc _ _
  have Hstop := hide (Tryd.all_stops 8 (by omega) (s0 + 1 + 1 + 1) (s0 + 1 + 1 + 1 + 1) (s0 + 1 + 1) b N S sl _ (by omega) (by omega) hDa (by omega) (by omega) (by omega) (by omega) bS.cell ((hB0.block b hbs).trans hT'.out) (hTb'.out.below hB0 hps))
  clear hs0 hDb
  refine wpIn_rangeFunc_ownF (α := Num) rfl (by omega) (gf := 51) (lb := #[.pointer (some ⟨s0 + 1 + 1 + 1, 0, none⟩)]) rfl trivial (enters_of Tryd.func51 (by kernel_rfl) rfl)
    Hstop.out kf_t (kf_b hDa) (Below.refl _ _) (fun _ => rfl)
    (GapI m e s0 w) (GapIx m e s0 w) (GapI.own m e s0 _ w hsw hsw2) (fun c => GapIx.own m e s0 _ w c hsw hsw2)
    ⟨0, rfl, by omega, bF.alloc _, ((bM.alloc _).alloc _).alloc _, (bE.alloc _).alloc _, hB0⟩
    (fun x => { tmps := #[.pointer (some ⟨b, 1, none⟩), .int .i64 m, .int .i64 e, undef, .pointer (some ⟨s0, 0, none⟩), .pointer (some ⟨s0 + 1, 0, none⟩), .int .i64 0, .pointer (some ⟨s0 + 1 + 1, 0, none⟩), .int .i64 x.1, .int .i64 m, .bool false, .bool false, .int .i64 e, .bool false, .bool false, .bool false, .int .i64 e, .bool false, .bool false, .pointer (some ⟨b, 1, none⟩), .func (.func 51) #[] #[.pointer (some ⟨s0 + 1 + 1 + 1, 0, none⟩)], .int .i64 x.1, undef, undef, undef, undef, undef, undef, undef, undef, undef, undef, undef, undef, undef, undef, undef, undef, undef, undef], defers := [] }) ?assign ?body ?done ?stop
  case assign =>
    intro l x W K hK
    gi_wp2
    exact hK
  case body =>
    rintro l pre ⟨x, hx⟩ W ⟨f, hf, hf2, cF, cM, cE, hB⟩ _
    have dF := cF.cell
    have dM := cM.cell
    have dE := cE.cell
    have fF := cF.frozen
    have Hf := hide hf
    clear hf
    gi_wp2
    · have h1 : x < e := by assumption
      have h2 : e ≤ x ∨ (m : Int) ≤ x - f := by assumption
      exact ⟨KeepsOthers.refl _, pre, ⟨x, hx⟩, f, rfl, rfl, Hf.out, hf2, by simp; omega, cF, cM, cE, hB⟩
    · have h1 : x < e := by assumption
      have h2 : (x : Int) - f < m := by omega
      exact ⟨KeepsOthers.setCell _ _ _, fun k _ hk => Below.heap_setCell _ _ _ _ (by simp; omega), GapI.step (x := ⟨x, hx⟩) Hf.out h1 (by simp; omega) cF cM cE hB⟩
    · have h1 : ¬ x < e := by assumption
      exact ⟨KeepsOthers.refl _, pre, ⟨x, hx⟩, f, rfl, rfl, Hf.out, hf2, by simp; omega, cF, cM, cE, hB⟩
  case done =>
    rintro D ys W hD hys ⟨f, hf, hf2, cF, cM, cE, hB⟩ hK
    have hD' := Nat.le_trans hsw2 hD
    have hspec := gap_of S m e h1 256 f (by rw [← hys]; exact hf) (.inl he)
    have dF := cF.cell
    have dM := cM.cell
    have dE := cE.cell
    have Hspec := hide hspec
    have HK := hide hK
    clear hspec hf hys hK
    gi_wp2
    · have hlt : (e : Int) - f < m := by assumption
      refine ⟨by simp, .inl ⟨_, _, rfl, run_takeDeferred HK.out, ?_⟩⟩
      exact ⟨_, results_tmp rfl _ _ _, ⟨_, rfl, by have := Hspec.out; rwa [if_pos hlt] at this⟩, by rw [← hs0'.out]; exact below_put hB hsw hD' _⟩
    · have hlt : (m : Int) ≤ (e : Int) - f := by assumption
      refine ⟨by simp, .inl ⟨_, _, rfl, run_takeDeferred HK.out, ?_⟩⟩
      exact ⟨_, results_tmp rfl _ _ _, ⟨_, rfl, by have := Hspec.out; rwa [if_neg (by omega)] at this⟩, by rw [← hs0'.out]; exact below_put hB hsw hD' _⟩
  case stop =>
    rintro D c pre W hD hp ⟨ini, x, f, rfl, rfl, hf, hf2, hx, cF, cM, cE, hB⟩ hK
    have hD' := Nat.le_trans hsw2 hD
    obtain ⟨h2, h3, h4⟩ := elems_prefix S 256 (nums ini) x.1 (by rw [← nums_snoc]; exact hp)
    have hspec := gap_of S m e h1 x.1 f (by rw [← h2]; exact hf) hx
    have dF := cF.cell
    have dM := cM.cell
    have dE := cE.cell
    have Hspec := hide hspec
    have HK := hide hK
    clear hspec hf hK h2 hp h4
    gi_wp2
    · have hlt : (e : Int) - f < m := by assumption
      refine ⟨by simp, .inl ⟨_, _, rfl, run_takeDeferred HK.out, ?_⟩⟩
      exact ⟨_, results_tmp rfl _ _ _, ⟨_, rfl, by have := Hspec.out; rwa [if_pos hlt] at this⟩, by rw [← hs0'.out]; exact below_put hB hsw hD' _⟩
    · have hlt : (m : Int) ≤ (e : Int) - f := by assumption
      refine ⟨by simp, .inl ⟨_, _, rfl, run_takeDeferred HK.out, ?_⟩⟩
      exact ⟨_, results_tmp rfl _ _ _, ⟨_, rfl, by have := Hspec.out; rwa [if_neg (by omega)] at this⟩, by rw [← hs0'.out]; exact below_put hB hsw hD' _⟩

theorem Tryd.Gap_in (b N m e : Nat) (S : Nat → Bool) (sl : Value) (w : World) (h1 : 1 ≤ m) (hm : m ≤ 9223372036854775807) (he : e ≤ 256) (hT : TabX w b N S sl) (hTb : Tbl w) :
    Calls Tryd.prog 30 #[.pointer (some ⟨b, 1, none⟩), .int .i64 m, .int .i64 e] w fun e' W' => (∃ r, e' = .returned (.int .i64 r) ∧ GapSpec S m e r) ∧ Below w.heap.size w W' :=
  callsIn_wide.1 (Tryd.Gap_wide b N m e S sl w h1 hm he hT hTb)
end Go.Proofs
