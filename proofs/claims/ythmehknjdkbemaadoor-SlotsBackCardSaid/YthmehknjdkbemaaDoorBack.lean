/- For every input the law SlotsBack returns true, and its arguments read as before. The row lists math/bits.deBruijn64tab, whose contents the given tie takes from the program's text. -/
import Derived.Test.YthmehknjdkbemaaDoorS21
import Derived.Test.YthmehknjdkbemaaDoorArg
import Derived.Test.YthmehknjdkbemaaDoorCards
import Derived.Test.YthmehknjdkbemaaDoorTie
import Derived.ProofKit
import Derived.OpenShut
import Derived.Deep.DeepHandedRow
import Derived.Lib.LaidTab
namespace Go.Proofs.YthmehknjdkbemaaDoor.slotsBack
open Go.ChangeShapes Go.WideShapes Go.ChangeAt Go.RowKit Go.Tr

theorem own : ownKnob Tryd.prog.godebug = none := by kernel_rfl
theorem gTab : Tryd.prog.globalNamed "math/bits.deBruijn64tab" = some 0 := by kernel_rfl
theorem gTabType : (Tryd.prog.globals[0]?).map (·.type) = some 96 := by kernel_rfl
theorem cellsTab : Tryd.prog.cellsOf 96 = 64 := by kernel_rfl
theorem cells5 : Tryd.prog.cellsOf 5 = 1 := by kernel_rfl
theorem cellsOp : Tryd.prog.cellsOf 30 = 4 := by kernel_rfl
theorem laidOut : laidOutB Tryd.prog = true := by kernel_rfl

def tabInts : List Int := Lib.deBruijn64tab.map fun n : Nat => (n : Int)
theorem tabEq {H : Type} : (Rows.laid_math_bits_deBruijn64tab : DataW H) = Lib.tabData .u8 tabInts := rfl
theorem table {W : World} (h : laidMetH Tryd.prog Rows.slotsBackRow.laid W) : Tbl W := by
  have ht : Lib.TabIs Tryd.prog W "math/bits.deBruijn64tab" .u8 tabInts :=
    Lib.tabIs_of_head (rest := []) gTab gTabType Tryd.underlying96 Tryd.underlying5 cells5 cellsTab h
  intro j hj
  have := ht.cell gTab j (by simpa [tabInts, Lib.deBruijn64tab] using hj)
  rw [this]
  have hl : j < Lib.deBruijn64tab.length := by simpa [Lib.deBruijn64tab] using hj
  simp [tabInts, List.getElem?_map, hl]

theorem opFields : ∃ fs, Tryd.prog.underlying 30 = some (.struct fs) ∧ fs.size = 4 ∧ IntFields Tryd.prog fs := by
  refine ⟨_, Tryd.underlying30, rfl, ?_⟩
  intro j f h
  have hc : Tryd.prog.cellsOf 3 = 1 := by kernel_rfl
  match j, h with
  | 0, h => obtain rfl := Option.some.inj h; exact ⟨rfl, hc, Tryd.underlying3⟩
  | 1, h => obtain rfl := Option.some.inj h; exact ⟨rfl, hc, Tryd.underlying3⟩
  | 2, h => obtain rfl := Option.some.inj h; exact ⟨rfl, hc, Tryd.underlying3⟩
  | 3, h => obtain rfl := Option.some.inj h; exact ⟨rfl, hc, Tryd.underlying3⟩
  | j + 4, h => simp at h

theorem readable : ∀ t ∈ Tryd.f6.params.toList, Tryd.prog.readableRec t = true ∧ t < Tryd.prog.types.size := by
  rw [Tryd.params6]
  intro t ht
  simp at ht
  rcases ht with rfl | rfl
  · exact ⟨by kernel_rfl, of_decide_eq_true (by kernel_rfl)⟩
  · exact ⟨by kernel_rfl, of_decide_eq_true (by kernel_rfl)⟩

/-- the argument's cells -/
theorem ops_of {H : Type} {enc : TypeId × Value → H} {W : World} {a0 : Option Addr} {len cap : Nat} {d : DataW H} {p : List MemPlace} (h : DataW.Trod enc Tryd.prog W 0 (fun _ => true) true 22 (.slice a0 len cap) d p) :
    len ≤ 9223372036854775807 ∧ ∃ ops, OpsAt W a0 len ops ∧ ∀ i, i < len → (ops i).2.2.2 ≤ 9223372036854775807 := by
  obtain ⟨fuel, hf⟩ := h
  obtain ⟨fs, hfs, hsz, hif⟩ := opFields
  rcases open_int_structs Tryd.underlying22 hfs hif (by rw [cellsOp, hsz]) hf with hcs | ⟨a, len', cap', V, hcs, hlc, hcm, hc⟩
  · have e : Value.slice a0 len cap = .slice none 0 0 := by simpa [Value.cells] using hcs
    injection e with e1 e2 e3
    subst e1 e2
    exact ⟨by omega, fun _ => (0, 0, 0, 0), fun h => by omega, fun i h => by omega⟩
  · have e : Value.slice a0 len cap = .slice (some a) len' cap' := by simpa [Value.cells] using hcs
    injection e with e1 e2 e3
    subst e1 e2 e3
    refine ⟨by unfold maxLen at hcm; omega, fun i => (V i 0, V i 1, V i 2, V i 3), fun h => ?_, fun i hi => (hc i 3 hi (by omega)).2.2⟩
    rw [hsz] at hc
    have h0 := (hc 0 0 h (by omega)).1
    have hsp : a.spot = none := by
      rw [show 0 * 4 + 0 = 0 from rfl, show a.add 0 = a from rfl] at h0
      unfold World.cell? at h0
      cases hs : a.spot with
      | none => rfl
      | some s =>
        rw [hs] at h0
        split at h0 <;> simp at h0
    obtain ⟨b, off, sp⟩ := a
    obtain rfl : sp = none := hsp
    have hadd : ∀ n, (⟨b, off, none⟩ : Addr).add n = ⟨b, off + n, none⟩ := fun n => by unfold Addr.add; split <;> simp_all
    have hlt : b < W.heap.size := World.block_lt_of_cell? W ⟨b, off, none⟩ (by simpa [Addr.add] using h0)
    refine ⟨b, off, rfl, hlt, fun i hi => ?_⟩
    have c0 := (hc i 0 hi (by omega)).1
    have c1 := (hc i 1 hi (by omega)).1
    have c2 := (hc i 2 hi (by omega)).1
    have c3 := (hc i 3 hi (by omega)).1
    rw [hadd] at c0 c1 c2 c3
    exact ⟨c0, c1, c2, c3⟩

theorem contract (H : Type) (enc : TypeId × Value → H) (W : World) (base : Nat) (args : Array Value) (ds gs : List (DataW H)) (before : List MemPlace)
    (hval : ∀ (j : Nat) t v, Tryd.f6.params[j]? = some t → args[j]? = some v → Value.okWide Tryd.prog W .any base t v)
    (hW : DataW.Whole enc Tryd.prog Tryd.f6.params.toList Rows.slotsBackSpec.vars false W args.toList ds gs before) (hL : laidMetH Tryd.prog Rows.slotsBackRow.laid W) :
    Calls Tryd.prog 6 args W fun e W' => ∃ v, e = .returned v ∧ Rows.slotsBackSpec.post enc Tryd.prog Tryd.f6 false true false false W args v W' := by
  have hW' := hW
  obtain ⟨p, q, hA0, hV, rfl, hfz, hnd⟩ := hW
  have hA : DataW.TrodAll enc Tryd.prog W 0 (fun _ => true) true Tryd.f6.params.toList args.toList ds p := hA0
  rw [Tryd.params6] at hA hval
  obtain ⟨v0, vs0, d0, ds0, p0, q0, hargs, rfl, rfl, h0, r0⟩ := trodAll_cons hA
  obtain ⟨v1, vs1, d1, ds1, p1, q1, rfl, rfl, rfl, h1, r1⟩ := trodAll_cons r0
  obtain ⟨v2, vs2, d2, ds2, p2, q2, rfl, rfl, rfl, h2, r2⟩ := trodAll_cons r1
  obtain ⟨rfl, rfl, rfl⟩ := trodAll_nil r2
  obtain rfl : args = #[v0, v1, v2] := by cases args; simp_all
  obtain ⟨rfl, rfl⟩ := trodVars_none hV
  obtain ⟨a0, len, cap, rfl⟩ := okWide_slice Tryd.underlying22 (hval 0 22 v0 rfl rfl)
  obtain ⟨m1, rfl, rfl, rfl, wm1⟩ := open_int Tryd.underlying3 (hval 1 3 v1 rfl rfl) h1
  obtain ⟨m2, rfl, rfl, rfl, wm2⟩ := open_int Tryd.underlying3 (hval 2 3 v2 rfl rfl) h2
  obtain ⟨hlen, ops, hO, h4⟩ := ops_of h0
  refine (Tryd.Back_in a0 len cap m1 m2 ops W hlen (int_bounds wm1).2 (table hL) hO h4).mono fun e W' ⟨he, hB⟩ => ?_
  exact ⟨_, he, post_true Tryd.underlying4 rfl rfl hW' rfl rfl rfl laidOut readable hB⟩

noncomputable def laidWorld (os : Os) : World :=
  { World.holding Tryd.prog os ⟨#[], #[], []⟩ with heap := (World.holding Tryd.prog os ⟨#[], #[], []⟩).heap.modify 0 fun
      | .cells _ t frozen => .cells (tabInts.map fun n => Value.int .u8 n).toArray t frozen
      | o => o }
theorem laid_met (os : Os) : laidMet Tryd.prog Rows.slotsBackRow.laid ((laidWorld os).forCall (fun _ _ => 0) ⟨#[], #[.slice none 0 0, .int .i64 0, .int .i64 0], []⟩).memory :=
  laidMet_of_run' 8 (by kernel_rfl) (by kernel_rfl)
theorem reads (os : Os) {H : Type} (enc : TypeId × Value → H) : ∃ places, DataW.whole enc Tryd.prog ((laidWorld os).forCall (fun _ _ => 0) ⟨#[], #[.slice none 0 0, .int .i64 0, .int .i64 0], []⟩).memory Tryd.f6.params.toList Rows.slotsBackSpec.vars false #[Value.slice none 0 0, .int .i64 0, .int .i64 0].toList 8 = some ([.nil, .lit (.int .i64 0), .lit (.int .i64 0)], [], places) :=
  ⟨[], by kernel_rfl⟩

set_option maxRecDepth 100000 in
theorem lifted (os : Os) (started : os.Started) (H : Type) (enc : TypeId × Value → H) (F : Stop.Interp) :
    ReturnsInHanded {} Tryd.checked os 6 .any ((OpenSpec.ofChange Rows.slotsBackSpec).preRow enc Tryd.prog Tryd.f6 Rows.slotsBackRow.domain false Rows.slotsBackRow.laid) (((OpenSpec.ofChange Rows.slotsBackSpec).at F).post enc Tryd.prog Tryd.f6 false true false false) := by
  obtain ⟨places, hx⟩ := reads os enc
  refine returnsInHanded_of_row (C := Tryd.checked) (s := OpenSpec.ofChange Rows.slotsBackSpec) own started (by kernel_rfl) Tryd.func6
    (witness_row_at (enc := enc) (C := Tryd.checked) false (laidWorld os) #[.slice none 0 0, .int .i64 0, .int .i64 0] rfl (by kernel_rfl) (by kernel_rfl) (by kernel_rfl)
      (OpenSpec.preRow_of_cond 8 hx (by kernel_rfl) (fun k hk => by cases hk) (by kernel_rfl) (laid_met os))) ?_
  intro W base args ds gs before hval hW _ _ _ hL _ _
  exact contract H enc W base args ds gs before hval hW hL

theorem said : Rows.SlotsBackSaid :=
  OpenClaim.holds_of_cond 6 Tryd.f6 rfl rfl rfl rfl rfl rfl rfl ⟨rfl, rfl, rfl, rfl, rfl⟩ rfl rfl rfl rfl rfl (by kernel_rfl) Tryd.func6 (by kernel_rfl)
    (of_decide_eq_true (by kernel_rfl)) (by unfold Func.isWrapper; first | (rw [if_pos (by decide +kernel)]; kernel_rfl) | (rw [if_neg (by decide +kernel)]; exact ⟨rfl, rfl⟩))
    (fun os started H enc _ F => by rw [OpenClaim.pre_eq_preRow]; exact lifted os started H enc F)

theorem plain (f : FuncId) (fn : Func) (hf : Tryd.pinned.checked.prog.funcNamed "trunnion/trunnionlaw15.SlotsBack" = some f) (hfn : Tryd.pinned.checked.prog.funcs[f]? = some fn) :
    false = Tryd.pinned.checked.prog.looks [] ∧ ∀ (j : Nat) t, fn.params[j]? = some t → Tryd.pinned.checked.prog.wantsStandIn t = false := by
  obtain rfl : f = 6 := Option.some.inj ((show Tryd.prog.funcNamed "trunnion/trunnionlaw15.SlotsBack" = some 6 by kernel_rfl).symm.trans hf) |>.symm
  obtain rfl : fn = Tryd.f6 := (Option.some.inj (Tryd.func6.symm.trans hfn)).symm
  refine ⟨by kernel_rfl, fun j t ht => ?_⟩
  rw [Tryd.params6] at ht
  have := Array.mem_of_getElem? ht
  simp at this
  rcases this with rfl | rfl
  · exact (show Tryd.prog.wantsStandIn 22 = false by kernel_rfl)
  · exact (show Tryd.prog.wantsStandIn 3 = false by kernel_rfl)

theorem card : Rows.SlotsBackCardSaid :=
  Claim7.holds_tied_plain_at .later [] _ _ _ _ said (fun _ h => by cases h) (by kernel_rfl) (fun _ h => by cases h) slotsBack_row_tie rfl ⟨rfl, rfl⟩ (by kernel_rfl) rfl plain (by kernel_rfl)
#print axioms card
end Go.Proofs.YthmehknjdkbemaaDoor.slotsBack
