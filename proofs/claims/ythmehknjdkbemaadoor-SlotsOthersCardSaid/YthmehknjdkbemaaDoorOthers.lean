/- For every input the law SlotsOthers returns true, and its arguments read as before. The row lists math/bits.deBruijn64tab, whose contents the given tie takes from the program's text. -/
import Derived.Test.YthmehknjdkbemaaDoorS22
import Derived.Test.YthmehknjdkbemaaDoorArg
import Derived.Test.YthmehknjdkbemaaDoorCards
import Derived.Test.YthmehknjdkbemaaDoorTie
import Derived.ProofKit
import Derived.OpenShut
import Derived.Deep.DeepHandedRow
import Derived.Lib.LaidTab
import Derived.Lib.SmallJoins
namespace Go.Proofs.YthmehknjdkbemaaDoor.slotsOthers
open Go.Joins Go.ChangeShapes Go.WideShapes Go.ChangeAt Go.RowKit Go.Tr

theorem own : ownKnob Tryd.prog.godebug = none := by kernel_rfl
theorem gTab : Tryd.prog.globalNamed "math/bits.deBruijn64tab" = some 0 := by kernel_rfl
theorem gTabType : (Tryd.prog.globals[0]?).map (·.type) = some 96 := by kernel_rfl
theorem cellsTab : Tryd.prog.cellsOf 96 = 64 := by kernel_rfl
theorem cells5 : Tryd.prog.cellsOf 5 = 1 := by kernel_rfl
theorem cellsOp : Tryd.prog.cellsOf 30 = 4 := by kernel_rfl
theorem laidOut : laidOutB Tryd.prog = true := by kernel_rfl

def tabInts : List Int := Lib.deBruijn64tab.map fun n : Nat => (n : Int)
theorem tabEq {H : Type} : (Rows.laid_math_bits_deBruijn64tab : DataW H) = Lib.tabData .u8 tabInts := rfl
theorem table {W : World} (h : laidMetH Tryd.prog Rows.slotsOthersRow.laid W) : Tbl W := by
  have ht : Lib.TabIs Tryd.prog W "math/bits.deBruijn64tab" .u8 tabInts :=
    Lib.tabIs_of_head (rest := []) gTab gTabType Tryd.underlying96 Tryd.underlying5 cells5 cellsTab h
  intro j hj
  have := ht.cell gTab j (by simpa [tabInts, Lib.deBruijn64tab] using hj)
  rw [this]
  have hl : j < Lib.deBruijn64tab.length := by simpa [Lib.deBruijn64tab] using hj
  simp [tabInts, List.getElem?_map, hl]

theorem opFields : ∃ fs, Tryd.prog.underlying 30 = some (.struct fs) ∧ fs.size = 4 ∧ IntFields Tryd.prog fs := by
  refine ⟨_, Tryd.underlying30, rfl, ?_⟩
  intro j f h
  have hc : Tryd.prog.cellsOf 3 = 1 := by kernel_rfl
  match j, h with
  | 0, h => obtain rfl := Option.some.inj h; exact ⟨rfl, hc, Tryd.underlying3⟩
  | 1, h => obtain rfl := Option.some.inj h; exact ⟨rfl, hc, Tryd.underlying3⟩
  | 2, h => obtain rfl := Option.some.inj h; exact ⟨rfl, hc, Tryd.underlying3⟩
  | 3, h => obtain rfl := Option.some.inj h; exact ⟨rfl, hc, Tryd.underlying3⟩
  | j + 4, h => simp at h

theorem readable : ∀ t ∈ Tryd.f5.params.toList, Tryd.prog.readableRec t = true ∧ t < Tryd.prog.types.size := by
  rw [Tryd.params5]
  intro t ht
  simp at ht
  rcases ht with rfl | rfl
  · exact ⟨by kernel_rfl, of_decide_eq_true (by kernel_rfl)⟩
  · exact ⟨by kernel_rfl, of_decide_eq_true (by kernel_rfl)⟩

theorem op_of {H : Type} {enc : TypeId × Value → H} {W : World} {base : Nat} {v : Value} {d : DataW H} {p : List MemPlace} (hv : Value.okWide Tryd.prog W .any base 30 v) (h : DataW.Trod enc Tryd.prog W 0 (fun _ => true) true 30 v d p) :
    ∃ o0 o1 o2 o3 : Int, v = .agg #[.int .i64 o0, .int .i64 o1, .int .i64 o2, .int .i64 o3] ∧ o3 ≤ 9223372036854775807 := by
  obtain ⟨v0, v1, v2, v3, y0, y1, y2, y3, n, rfl, -, -, h0, h1, h2, h3⟩ := open_agg4 Tryd.underlying30 (by kernel_rfl) cellsOp hv h
  obtain ⟨n0, e0, -, -⟩ := DataW.trod_int Tryd.underlying3 h0
  obtain ⟨n1, e1, -, -⟩ := DataW.trod_int Tryd.underlying3 h1
  obtain ⟨n2, e2, -, -⟩ := DataW.trod_int Tryd.underlying3 h2
  obtain ⟨n3, e3, -, w3⟩ := DataW.trod_int Tryd.underlying3 h3
  injection e0 with e0
  injection e1 with e1
  injection e2 with e2
  injection e3 with e3
  subst e0 e1 e2 e3
  exact ⟨n0, n1, n2, n3, rfl, (int_bounds w3).2⟩

/-- the argument's cells -/
theorem ops_of {H : Type} {enc : TypeId × Value → H} {W : World} {a0 : Option Addr} {len cap : Nat} {d : DataW H} {p : List MemPlace} (h : DataW.Trod enc Tryd.prog W 0 (fun _ => true) true 22 (.slice a0 len cap) d p) :
    len ≤ 9223372036854775807 ∧ ∃ ops, OpsAt W a0 len ops ∧ ∀ i, i < len → (ops i).2.2.2 ≤ 9223372036854775807 := by
  obtain ⟨fuel, hf⟩ := h
  obtain ⟨fs, hfs, hsz, hif⟩ := opFields
  rcases open_int_structs Tryd.underlying22 hfs hif (by rw [cellsOp, hsz]) hf with hcs | ⟨a, len', cap', V, hcs, hlc, hcm, hc⟩
  · have e : Value.slice a0 len cap = .slice none 0 0 := by simpa [Value.cells] using hcs
    injection e with e1 e2 e3
    subst e1 e2
    exact ⟨by omega, fun _ => (0, 0, 0, 0), fun h => by omega, fun i h => by omega⟩
  · have e : Value.slice a0 len cap = .slice (some a) len' cap' := by simpa [Value.cells] using hcs
    injection e with e1 e2 e3
    subst e1 e2 e3
    refine ⟨by unfold maxLen at hcm; omega, fun i => (V i 0, V i 1, V i 2, V i 3), fun h => ?_, fun i hi => (hc i 3 hi (by omega)).2.2⟩
    rw [hsz] at hc
    have h0 := (hc 0 0 h (by omega)).1
    have hsp : a.spot = none := by
      rw [show 0 * 4 + 0 = 0 from rfl, show a.add 0 = a from rfl] at h0
      unfold World.cell? at h0
      cases hs : a.spot with
      | none => rfl
      | some s =>
        rw [hs] at h0
        split at h0 <;> simp at h0
    obtain ⟨b, off, sp⟩ := a
    obtain rfl : sp = none := hsp
    have hadd : ∀ n, (⟨b, off, none⟩ : Addr).add n = ⟨b, off + n, none⟩ := fun n => by unfold Addr.add; split <;> simp_all
    have hlt : b < W.heap.size := World.block_lt_of_cell? W ⟨b, off, none⟩ (by simpa [Addr.add] using h0)
    refine ⟨b, off, rfl, hlt, fun i hi => ?_⟩
    have c0 := (hc i 0 hi (by omega)).1
    have c1 := (hc i 1 hi (by omega)).1
    have c2 := (hc i 2 hi (by omega)).1
    have c3 := (hc i 3 hi (by omega)).1
    rw [hadd] at c0 c1 c2 c3
    exact ⟨c0, c1, c2, c3⟩

theorem contract (H : Type) (enc : TypeId × Value → H) (W : World) (base : Nat) (args : Array Value) (ds gs : List (DataW H)) (before : List MemPlace)
    (hval : ∀ (j : Nat) t v, Tryd.f5.params[j]? = some t → args[j]? = some v → Value.okWide Tryd.prog W .any base t v)
    (hW : DataW.Whole enc Tryd.prog Tryd.f5.params.toList Rows.slotsOthersSpec.vars false W args.toList ds gs before) (hL : laidMetH Tryd.prog Rows.slotsOthersRow.laid W) :
    Calls Tryd.prog 5 args W fun e W' => ∃ v, e = .returned v ∧ Rows.slotsOthersSpec.post enc Tryd.prog Tryd.f5 false true false false W args v W' := by
  have hW' := hW
  obtain ⟨p, q, hA0, hV, rfl, hfz, hnd⟩ := hW
  have hA : DataW.TrodAll enc Tryd.prog W 0 (fun _ => true) true Tryd.f5.params.toList args.toList ds p := hA0
  rw [Tryd.params5] at hA hval
  obtain ⟨v0, vs0, d0, ds0, p0, q0, hargs, rfl, rfl, h0, r0⟩ := trodAll_cons hA
  obtain ⟨v1, vs1, d1, ds1, p1, q1, rfl, rfl, rfl, h1, r1⟩ := trodAll_cons r0
  obtain ⟨rfl, rfl, rfl⟩ := trodAll_nil r1
  obtain rfl : args = #[v0, v1] := by cases args; simp_all
  obtain ⟨rfl, rfl⟩ := trodVars_none hV
  obtain ⟨a0, len, cap, rfl⟩ := okWide_slice Tryd.underlying22 (hval 0 22 v0 rfl rfl)
  obtain ⟨o0, o1, o2, o3, rfl, hb3⟩ := op_of (hval 1 30 v1 rfl rfl) h1
  obtain ⟨hlen, ops, hO, h4⟩ := ops_of h0
  refine (Tryd.Others_in a0 len cap o0 o1 o2 o3 ops W hlen hb3 (table hL) hO h4).mono fun e W' ⟨he, hB⟩ => ?_
  exact ⟨_, he, post_true Tryd.underlying4 rfl rfl hW' rfl rfl rfl laidOut readable hB⟩

noncomputable def laidWorld (os : Os) : World :=
  { World.holding Tryd.prog os ⟨#[], #[], []⟩ with heap := (World.holding Tryd.prog os ⟨#[], #[], []⟩).heap.modify 0 fun
      | .cells _ t frozen => .cells (tabInts.map fun n => Value.int .u8 n).toArray t frozen
      | o => o }
theorem laid_met (os : Os) : laidMet Tryd.prog Rows.slotsOthersRow.laid ((laidWorld os).forCall (fun _ _ => 0) ⟨#[], #[.slice none 0 0, .agg #[.int .i64 0, .int .i64 0, .int .i64 0, .int .i64 0]], []⟩).memory :=
  laidMet_of_run' 8 (by kernel_rfl) (by kernel_rfl)
theorem reads (os : Os) {H : Type} (enc : TypeId × Value → H) : ∃ places, DataW.whole enc Tryd.prog ((laidWorld os).forCall (fun _ _ => 0) ⟨#[], #[.slice none 0 0, .agg #[.int .i64 0, .int .i64 0, .int .i64 0, .int .i64 0]], []⟩).memory Tryd.f5.params.toList Rows.slotsOthersSpec.vars false #[Value.slice none 0 0, .agg #[.int .i64 0, .int .i64 0, .int .i64 0, .int .i64 0]].toList 8 = some ([.nil, .agg [.lit (.int .i64 0), .lit (.int .i64 0), .lit (.int .i64 0), .lit (.int .i64 0)]], [], places) :=
  ⟨[], by kernel_rfl⟩

set_option maxRecDepth 100000 in
theorem lifted (os : Os) (started : os.Started) (H : Type) (enc : TypeId × Value → H) (F : Stop.Interp) :
    ReturnsInHanded {} Tryd.checked os 5 .any ((OpenSpec.ofChange Rows.slotsOthersSpec).preRow enc Tryd.prog Tryd.f5 Rows.slotsOthersRow.domain false Rows.slotsOthersRow.laid) (((OpenSpec.ofChange Rows.slotsOthersSpec).at F).post enc Tryd.prog Tryd.f5 false true false false) := by
  obtain ⟨places, hx⟩ := reads os enc
  refine returnsInHanded_of_row (C := Tryd.checked) (s := OpenSpec.ofChange Rows.slotsOthersSpec) own started (by kernel_rfl) Tryd.func5
    (witness_row_at (enc := enc) (C := Tryd.checked) false (laidWorld os) #[.slice none 0 0, .agg #[.int .i64 0, .int .i64 0, .int .i64 0, .int .i64 0]] rfl (by kernel_rfl) (by kernel_rfl) (by kernel_rfl)
      (OpenSpec.preRow_of_cond 8 hx (by kernel_rfl) (fun k hk => by cases hk) (by kernel_rfl) (laid_met os))) ?_
  intro W base args ds gs before hval hW _ _ _ hL _ _
  exact contract H enc W base args ds gs before hval hW hL

theorem said : Rows.SlotsOthersSaid :=
  OpenClaim.holds_of_cond 5 Tryd.f5 rfl rfl rfl rfl rfl rfl rfl ⟨rfl, rfl, rfl, rfl, rfl⟩ rfl rfl rfl rfl rfl (by kernel_rfl) Tryd.func5 (by kernel_rfl)
    (of_decide_eq_true (by kernel_rfl)) (by unfold Func.isWrapper; first | (rw [if_pos (by decide +kernel)]; kernel_rfl) | (rw [if_neg (by decide +kernel)]; exact ⟨rfl, rfl⟩))
    (fun os started H enc _ F => by rw [OpenClaim.pre_eq_preRow]; exact lifted os started H enc F)

theorem plain (f : FuncId) (fn : Func) (hf : Tryd.pinned.checked.prog.funcNamed "trunnion/trunnionlaw15.SlotsOthers" = some f) (hfn : Tryd.pinned.checked.prog.funcs[f]? = some fn) :
    false = Tryd.pinned.checked.prog.looks [] ∧ ∀ (j : Nat) t, fn.params[j]? = some t → Tryd.pinned.checked.prog.wantsStandIn t = false := by
  obtain rfl : f = 5 := Option.some.inj ((show Tryd.prog.funcNamed "trunnion/trunnionlaw15.SlotsOthers" = some 5 by kernel_rfl).symm.trans hf) |>.symm
  obtain rfl : fn = Tryd.f5 := (Option.some.inj (Tryd.func5.symm.trans hfn)).symm
  refine ⟨by kernel_rfl, fun j t ht => ?_⟩
  rw [Tryd.params5] at ht
  have := Array.mem_of_getElem? ht
  simp at this
  rcases this with rfl | rfl
  · exact (show Tryd.prog.wantsStandIn 22 = false by kernel_rfl)
  · exact (show Tryd.prog.wantsStandIn 30 = false by kernel_rfl)

theorem card : Rows.SlotsOthersCardSaid :=
  Claim7.holds_tied_plain_at .later [] _ _ _ _ said (fun _ h => by cases h) (by kernel_rfl) (fun _ h => by cases h) slotsOthers_row_tie rfl ⟨rfl, rfl⟩ (by kernel_rfl) rfl plain (by kernel_rfl)
#print axioms card
end Go.Proofs.YthmehknjdkbemaaDoor.slotsOthers
