/- The contracts of math/bits.TrailingZeros64 and of the iterator bitmap.All. -/
import Derived.Test.YthmehknjdkbemaaDoorS3
import Derived.Test.YthmehknjdkbemaaDoorEl
import Derived.RangeFuncNested
import Derived.RangeFuncBound
import Derived.RangeFuncCalls
import Derived.RangeFuncLeaves
import Derived.Shelf.Abstract
import Derived.Shelf.RegionOpen
import Derived.OwnWalkIn
import Derived.TacticsInMore
import Derived.LoopNIn
import Derived.LoopIn
namespace Go.Proofs
open Go.RowKit Go.Shelf Go.Tr
attribute [local go_sem] Oper.semAt_some

/-- the table of math/bits in its variable -/
def Tbl (w : World) : Prop := ∀ j, j < 64 → w.cell? ⟨0, j, none⟩ = some (.int .u8 (Lib.deBruijn64tab.getD j 0))

theorem Tbl.below {w w' : World} {B : Nat} (h : Tbl w) (hb : Below B w w') (hB : 0 < B) : Tbl w' := fun j hj => (hb.cell (p := ⟨0, j, none⟩) hB).trans (h j hj)
theorem Tbl.fr {w w' : World} {F : Nat → Prop} (h : Tbl w) (hf : Fr F w w') (hF : ¬ F 0) : Tbl w' := fun j hj => by
  have h0 : 0 < w.heap.size := World.block_lt_of_cell? w ⟨0, 0, none⟩ (h 0 (by omega))
  exact (hf.cell (p := ⟨0, j, none⟩) h0 hF).trans (h j hj)
theorem Tbl.pos {w : World} (h : Tbl w) : 0 < w.heap.size := World.block_lt_of_cell? w ⟨0, 0, none⟩ (h 0 (by omega))

theorem Tryd.tz_key (x a : Nat) (hx : x < 18446744073709551616) (hx0 : x ≠ 0) (hlow : x &&& (18446744073709551616 - x) = a) :
    IntKind.u64.wrap (bits BinOp.and IntKind.u64 (x : Int) (IntKind.u64.wrap (-(x : Int))) * 285870213051353865) / 288230376151711744 = ((a * 285870213051353865 % 18446744073709551616 / 288230376151711744 : Nat) : Int) := by
  have hw : ∀ n : Int, IntKind.u64.wrap n = n % 18446744073709551616 := fun n => by simp [IntKind.wrap, IntKind.bits, IntKind.signed]
  have e1 : IntKind.u64.wrap (-(x : Int)) = ((18446744073709551616 - x : Nat) : Int) := by rw [hw]; omega
  rw [e1, u64_and_nat x _ hx (by omega), hlow, hw]
  omega

theorem Tryd.tz_core (x k idx : Nat) (w : World) (hx0 : ((x : Int) == 0) = false)
    (key : IntKind.u64.wrap (bits BinOp.and IntKind.u64 (x : Int) (IntKind.u64.wrap (-(x : Int))) * 285870213051353865) / 288230376151711744 = (idx : Int))
    (hi : idx < 64) (hk : k < 64) (hcell : w.cell? ⟨0, idx, none⟩ = some (.int .u8 k)) :
    Calls Tryd.prog 52 #[.int .u64 x] w fun e w' => e = .returned (.int .i64 k) ∧ w = w' := by
  go_enter Tryd.func52, Tryd.ntmps52
  go_wp2_with (simp only [key])
  go_ret
  exact ⟨rfl, rfl⟩

theorem Tryd.tz_in (x : Nat) (hx : x < 18446744073709551616) (h0 : x ≠ 0) (w : World) (hT : Tbl w) :
    Calls Tryd.prog 52 #[.int .u64 x] w fun e w' => e = .returned (.int .i64 (Lib.ctz 64 x)) ∧ w = w' := by
  obtain ⟨hlow, hk⟩ := Lib.lowest_bit 64 x h0 hx
  obtain ⟨hi, htab⟩ := Lib.deBruijn64_at _ hk
  have hcell := hT _ hi
  rw [htab] at hcell
  exact Tryd.tz_core x _ _ w (by simp; omega) (Tryd.tz_key x _ hx h0 hlow) hi hk hcell

theorem u64_pred (x : Nat) (h : x < 18446744073709551616) (h0 : x ≠ 0) : bits .and .u64 (x : Int) (IntKind.u64.wrap ((x : Int) - 1)) = ((x &&& (x - 1) : Nat) : Int) := by
  rw [show (x : Int) - 1 = ((x - 1 : Nat) : Int) by omega, wrap_u64_nat _ (by omega), u64_and_nat _ _ h (by omega)]

/-- below n₀ only block f has turned -/
def Kf (n₀ f : Nat) (W W' : World) : Prop := ∀ k, k < n₀ → k ≠ f → W'.heap[k]? = W.heap[k]?
theorem Kf.refl (n₀ f : Nat) (W : World) : Kf n₀ f W W := fun _ _ _ => rfl
theorem Kf.trans {n₀ f : Nat} {A B C : World} (h : Kf n₀ f A B) (h' : Kf n₀ f B C) : Kf n₀ f A C := fun k a b => (h' k a b).trans (h k a b)
theorem Kf.cell {n₀ f : Nat} {A B : World} (h : Kf n₀ f A B) {p : Addr} (hp : p.block < n₀) (hf : p.block ≠ f) : B.cell? p = A.cell? p := World.cell?_of_block (h _ hp hf)
theorem Tbl.kf {n₀ f : Nat} {A B : World} (hT : Tbl A) (h : Kf n₀ f A B) (h0 : 0 < n₀) (hf : 0 ≠ f) : Tbl B := fun j hj => (h.cell (p := ⟨0, j, none⟩) h0 hf).trans (hT j hj)
theorem Kf.of_below {n₀ f B : Nat} {W W' : World} (h : Below B W W') (hB : n₀ ≤ B) : Kf n₀ f W W' := fun k hk _ => h.block k (by omega)

set_option maxRecDepth 100000 in
set_option maxHeartbeats 1000000 in
/-- the closure of bitmap.All: for every loop body that keeps what lay below n₀ -/
theorem Tryd.all1_in (n : Nat) (hn : 1 ≤ n) (l Bs n₀ f b N : Nat) (S : Nat → Bool) (sl : Value) (hb : b < n₀) (hBn : Bs < n₀) (h0n : 0 < n₀) (hbf : b ≠ f) (hBf : Bs ≠ f) (h0f : 0 ≠ f) (J Jx : List Nat → World → Prop)
    (hY : ∀ (pre : List Nat) (x : Nat) W, J pre W → pre.length < 256 → x < 256 → YieldAt Fence.wide (n - 1) Tryd.prog l #[.int .i64 x] W fun e W' =>
      (e = .returned (.bool true) ∧ J (pre ++ [x]) W' ∧ Kf n₀ f W W') ∨ (e = .returned (.bool false) ∧ Jx (pre ++ [x]) W'))
    (W : World) (hBs : W.cell? ⟨Bs, 0, none⟩ = some (.pointer (some ⟨b, 1, none⟩))) (hT : TabX W b N S sl) (hTb : Tbl W) (h0 : J [] W) :
    CallsIn Fence.wide n Tryd.prog 51 #[.func (.yield l) #[] #[], .pointer (some ⟨Bs, 0, none⟩)] W fun e W' => (∃ v, e = .returned v) ∧
      ((∃ ys, ys = elemsBelow S 256 ∧ J ys W') ∨ (∃ pre, pre <+: elemsBelow S 256 ∧ Jx pre W')) := by
  refine callsIn_of_wp Tryd.func51 rfl trivial ?_ rfl
  simp only [Tryd.ntmps51, List.size_toArray, List.length_cons, List.length_nil, Nat.reduceAdd, Nat.reduceSub, Array.replicate_succ, Array.replicate_zero, List.push_toArray, List.append_toArray, List.nil_append, List.cons_append]
  gi_wp2
  gi_loopw [3, 4, 5] (fun _ _ i wr => ∃ k : Nat, k ≤ 4 ∧ i = .int .i64 k ∧ J (elemsBelow S (64 * k)) wr ∧ Kf n₀ f W wr)
    (fun _ _ i _ => 4 - (intOf i).toNat)
  case atStart => exact ⟨0, Nat.zero_le _, rfl, h0, Kf.refl _ _ _⟩
  case round =>
    obtain ⟨k, hk, rfl, hJs, hnx⟩ := hrel
    by_cases hlt : k < 4
    · have hcb := (hnx.cell (p := ⟨Bs, 0, none⟩) hBn hBf).trans hBs
      have hcw := (hnx.cell (p := ⟨b, 1 + k, none⟩) hb hbf).trans ((Blk.cell hT (1 + k)).trans (tabCells_word N S sl k hlt))
      clear hBs
      have hkb : decide ((k : Int) < 4) = true := by simp; omega
      obtain ⟨wo, rfl⟩ : ∃ wo : World, wo = wr := ⟨_, rfl⟩
      gi_wp2
      gi_loopw [4] (fun v wr => ∃ p : Nat, p ≤ 64 ∧ v = .int .u64 (low (fun j => S (64 * k + j)) p) ∧ J (elemsBelow S (64 * k + p)) wr ∧ Kf n₀ f W wr)
        (fun v _ => (intOf v).toNat)
      case atStart => exact ⟨0, Nat.zero_le _, by rw [low_start]; rfl, hJs, hnx⟩
      case round =>
        obtain ⟨p, hp, rfl, hJp, hnp⟩ := hrel
        clear hcb hcw
        have hlt64 := low_lt (fun j => S (64 * k + j)) p
        by_cases hz : low (fun j => S (64 * k + j)) p = 0
        · have hzz := low_zero hz
          have hsk := elemsBelow_skip S (64 * k + p) (64 - p) (fun j h1 h2 => by have := hzz (j - 64 * k) (by omega) (by omega); rwa [show 64 * k + (j - 64 * k) = j by omega] at this)
          rw [show 64 * k + p + (64 - p) = 64 * (k + 1) by omega] at hsk
          rw [← hsk] at hJp
          have Hz := hide hz
          clear hz hzz hsk hJs
          generalize low (fun j => S (64 * k + j)) p = v at *
          obtain rfl : v = 0 := Hz.out
          gi_wp2
          go_roundw
          case rel => exact ⟨k + 1, by omega, by simp, hJp, hnp⟩
          case measure => simp [intOf]; omega
        · obtain ⟨n1, n2, n3, n4, n5⟩ := low_next hz
          have hsk := elemsBelow_skip S (64 * k + p) (Lib.ctz 64 (low (fun j => S (64 * k + j)) p) - p) (fun j h1 h2 => by have := n4 (j - 64 * k) (by omega) (by omega); rwa [show 64 * k + (j - 64 * k) = j by omega] at this)
          have hctz := Tryd.tz_in (low (fun j => S (64 * k + j)) p) hlt64 hz wr (hTb.kf hnp h0n h0f)
          have hpred := u64_pred _ hlt64 hz
          rw [n5] at hpred
          generalize Lib.ctz 64 (low (fun j => S (64 * k + j)) p) = t at *
          rw [show 64 * k + p + (t - p) = 64 * k + t by omega] at hsk
          have hnext : elemsBelow S (64 * k + (t + 1)) = elemsBelow S (64 * k + p) ++ [64 * k + t] := by
            rw [← hsk, show 64 * k + (t + 1) = (64 * k + t) + 1 by omega, elemsBelow_succ, if_pos n3]
          have hlen : (elemsBelow S (64 * k + p)).length < 256 := by
            rw [← hsk]
            have := elemsBelow_length S (64 * k + t)
            omega
          obtain ⟨fn, tmps, assign, body, hy, hR⟩ := hY _ (64 * k + t) wr hJp hlen (by omega)
          have hmeas : low (fun j => S (64 * k + j)) (t + 1) < low (fun j => S (64 * k + j)) p := by
            rw [← n5]
            have := Nat.and_le_right (n := low (fun j => S (64 * k + j)) p) (m := low (fun j => S (64 * k + j)) p - 1)
            omega
          have Hnext := hide hnext
          have Hpre := hide (elemsBelow_le S (show 64 * k + (t + 1) ≤ 256 by omega))
          have hne : ((low (fun j => S (64 * k + j)) p : Nat) : Int) ≠ 0 := by omega
          have Hne : (((low (fun j => S (64 * k + j)) p : Nat) : Int) != 0) = true := by simpa using hne
          clear hnext n3 n4 n5 hsk hlen hz hJs hlt64 hne
          generalize low (fun j => S (64 * k + j)) p = v at *
          generalize hv' : low (fun j => S (64 * k + j)) (t + 1) = v' at *
          have Hv' := hide hv'
          clear hv'
          rw [show ((64 * k + t : Nat) : Int) = (k : Int) * 64 + t by omega] at hy
          gi_wp2_with (refine ⟨trivial, ?_⟩; gi_at_call 52; refine (callsIn_wide.2 hctz).mono ?_; rintro e w' ⟨rfl, rfl⟩)
          refine hR.mono ?_
          rintro e W3 (⟨rfl, hJ3, hk3⟩ | ⟨rfl, hJx3⟩)
          · gi_wp2
            go_roundw
            case rel => exact ⟨t + 1, n2, by rw [Hv'.out], by rw [Hnext.out]; exact hJ3, hnp.trans hk3⟩
            case measure => simp [intOf]; omega
          · gi_wp2
            refine bodyPost_ret (results_none rfl _ _ _) rfl ?_
            exact ⟨⟨_, rfl⟩, .inr ⟨_, Hpre.out, by rw [Hnext.out]; exact hJx3⟩⟩
    · obtain rfl : k = 4 := by omega
      gi_wp2
      go_end0
      exact ⟨⟨_, rfl⟩, .inl ⟨_, rfl, hJs⟩⟩

theorem Tryd.All_in (n : Nat) (a : Option Addr) (w : World) :
    CallsIn Fence.wide n Tryd.prog 38 #[.pointer a] w fun e w' => e = .returned (.func (.func 51) #[] #[.pointer (some ⟨w.heap.size, 0, none⟩)]) ∧ w' = w.alloc (.cells #[.pointer a] 67) := by
  refine callsIn_of_wp Tryd.func38 rfl trivial ?_ rfl
  simp only [Tryd.ntmps38, List.size_toArray, List.length_cons, List.length_nil, Nat.reduceAdd, Nat.reduceSub, Array.replicate_succ, Array.replicate_zero, List.push_toArray, List.append_toArray, List.nil_append, List.cons_append]
  gi_wp2
  go_ret
  exact ⟨rfl, rfl⟩

/-- a number below 256 -/
abbrev Num := { x : Nat // x < 256 }

theorem Tryd.all_stops (n : Nat) (hn : 1 ≤ n) (Bs n₀ f b N : Nat) (S : Nat → Bool) (sl : Value) (w : World) (hBs : Bs < n₀) (hb : b < n₀) (hn₀ : n₀ ≤ w.heap.size) (h0 : 0 < n₀) (hbf : b ≠ f) (hBf : Bs ≠ f) (h0f : 0 ≠ f)
    (hc : w.cell? ⟨Bs, 0, none⟩ = some (.pointer (some ⟨b, 1, none⟩))) (hT : TabX w b N S sl) (hTb : Tbl w) :
    SeqStopsK Fence.wide n Tryd.prog 51 #[.pointer (some ⟨Bs, 0, none⟩)] (fun x : Num => #[Value.int .i64 x.1]) (Kf n₀ f) (fun ys => ys.map (·.1) = elemsBelow S 256) (fun pre => pre.map (·.1) <+: elemsBelow S 256) 256 w := fun l J Jx W hW _ _ hY hJ0 => by
  have hW' := hW.mono hn₀
  refine (Tryd.all1_in n hn l Bs n₀ f b N S sl hb hBs h0 hbf hBf h0f (fun q W => ∃ q' : List Num, q'.map (·.1) = q ∧ J q' W) (fun q W => ∃ q' : List Num, q'.map (·.1) = q ∧ Jx q' W) ?_ W ((hW'.cell (p := ⟨Bs, 0, none⟩) hBs).trans hc) ((hW'.block b hb).trans hT) (hTb.below hW' h0) ⟨[], rfl, hJ0⟩).mono ?_
  · rintro _ x W1 ⟨q', rfl, hq⟩ hlen hx
    obtain ⟨fn, tmps, asg, body, h1, h2⟩ := hY q' ⟨x, hx⟩ W1 hq (by simpa using hlen)
    refine ⟨fn, tmps, asg, body, h1, h2.mono ?_⟩
    rintro e W' (⟨rfl, hj, hk⟩ | ⟨rfl, hj⟩)
    · exact .inl ⟨rfl, ⟨_, by simp, hj⟩, hk⟩
    · exact .inr ⟨rfl, ⟨_, by simp, hj⟩⟩
  · rintro e W' ⟨he, ⟨_, rfl, q', hq, hj⟩ | ⟨_, hp, q', rfl, hj⟩⟩
    · exact ⟨he, .inl ⟨q', hq, hj⟩⟩
    · exact ⟨he, .inr ⟨q', hp, hj⟩⟩

theorem kf_t {n₀ f : Nat} {A B C : World} (h : Kf n₀ f A B) (k : Kf n₀ f B C) : Kf n₀ f A C := h.trans k
theorem kf_b {n₀ f : Nat} {w : World} (hn : n₀ ≤ w.heap.size) (W : World) (l : Nat) (o o' : Obj) (hl : w.heap.size ≤ l) (_ : W.heap[l]? = some o) (_ : o.isCells = false) (_ : o.isWalk = false) : Kf n₀ f W (W.putObj l o') := by
  intro k hk _
  exact (grownBy_putObj' W l o').block k (by
    rename_i h _ _ _
    have := (Array.getElem?_eq_some_iff.1 h).1
    omega) (fun e => by cases e; omega)
end Go.Proofs
