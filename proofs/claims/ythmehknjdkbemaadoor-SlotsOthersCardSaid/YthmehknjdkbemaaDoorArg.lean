/- Arguments that are slices of structs of ints: their cells. -/
import Derived.Test.YthmehknjdkbemaaDoorBase
import Derived.Deep.Slices
import Derived.ChangeSame
import Derived.Carry
import Derived.RowKit
import Derived.OpenShut
namespace Go.Tr
open Go.RowKit Go.ChangeShapes Go.WideShapes Go.Deep

theorem add_twice (a : Addr) (i j : Nat) : (a.add i).add j = a.add (i + j) := by
  unfold Addr.add
  by_cases hi : i = 0 <;> by_cases hj : j = 0 <;> simp [hi, hj, Nat.add_assoc]

theorem int_bounds {n : Int} (h : (Lit.int .i64 n).wf = true) : -9223372036854775808 ≤ n ∧ n ≤ 9223372036854775807 := by
  have e1 : IntKind.i64.min = -9223372036854775808 := by decide
  have e2 : IntKind.i64.max = 9223372036854775807 := by decide
  simp only [Lit.wf, e1, e2, Bool.and_eq_true, decide_eq_true_eq] at h
  exact h

/-- every field an int of one cell, at its place -/
def IntFields (P : Program) (fs : Array Field) : Prop := ∀ (j : Nat) (f : Field), fs[j]? = some f → f.offset = j ∧ P.cellsOf f.type = 1 ∧ P.underlying f.type = some (.int .i64)

section
variable {H : Type} {enc : TypeId × Value → H} {P : Program} {w : World} {base : Nat} {spare : Nat → Bool} {held : Bool}
theorem open_int_structs {t e : TypeId} {fs : Array Field} {fuel : Nat} {cs : List Value} {x : DataW H × List MemPlace} (ht : P.underlying t = some (.slice e)) (he : P.underlying e = some (.struct fs))
    (hF : IntFields P fs) (hC : P.cellsOf e = fs.size) (h : DataW.trod enc P w base spare held fuel t cs = some x) :
    (cs = [.slice none 0 0]) ∨
    ∃ (a : Addr) (len cap : Nat) (V : Nat → Nat → Int), cs = [.slice (some a) len cap] ∧ len ≤ cap ∧ cap ≤ maxLen ∧
      ∀ i j, i < len → j < fs.size → w.cell? (a.add (i * fs.size + j)) = some (.int .i64 (V i j)) ∧ -9223372036854775808 ≤ V i j ∧ V i j ≤ 9223372036854775807 := by
  rcases open_slice ht h with h0 | ⟨a, len, cap, m, n, D, Pl, hcs, hb, hl, hm, hmm, hx, hi⟩
  · exact .inl h0.1
  · refine .inr ⟨a, len, cap, fun i j => match w.cell? (a.add (i * fs.size + j)) with
      | some (.int .i64 v) => v
      | _ => 0, hcs, hl, hm, fun i j hil hj => ?_⟩
    have him : i < m := by rw [hmm]; split <;> omega
    obtain ⟨cs', hc, ht'⟩ := hi i him
    rw [hC] at hc
    obtain ⟨ys, n', hn', hy, hlen, hyl, hf⟩ := DataW.trod_struct he ht'
    obtain ⟨_, hcl, hat⟩ := World.cells?_some hc
    have hcell := hat j hj
    rw [add_twice] at hcell
    have hfj : fs[j]? = some fs[j] := Array.getElem?_eq_getElem hj
    obtain ⟨ho, hk, hu⟩ := hF j _ hfj
    have h1 := hf j _ hfj
    rw [ho, hk, List.getElem?_eq_getElem (by omega)] at h1
    obtain ⟨v, hv, _, hwf⟩ := DataW.trod_int hu h1
    have hv' : cs'[j]? = some (.int .i64 v) := by
      have := congrArg (fun l : List Value => l[0]?) hv
      simpa using this
    have hall := hcell.trans hv'
    dsimp only
    rw [hall]
    exact ⟨rfl, int_bounds hwf⟩

theorem trodAll_below (hl : laidOutB P = true) {W W' : World} (hb : Below W.heap.size W W') : ∀ {ts : List TypeId} {vs : List Value} {ds : List (DataW H)} {ps : List MemPlace}, (∀ t ∈ ts, P.readableRec t = true ∧ t < P.types.size) →
    DataW.TrodAll enc P W 0 (fun _ => true) true ts vs ds ps → (∀ p ∈ ps, p.block < W.heap.size) → DataW.TrodAll enc P W' 0 (fun b => decide (b < W.heap.size)) true ts vs ds ps := by
  intro ts
  induction ts with
  | nil =>
    intro vs ds ps _ h _
    cases vs <;> cases ds <;> simp [DataW.TrodAll] at h ⊢
    exact h
  | cons t ts ih =>
    intro vs ds ps ht h hp
    obtain ⟨v, vs', d, ds', p, q, rfl, rfl, rfl, h1, h2⟩ := trodAll_cons h
    have ht0 := ht t (by simp)
    exact trodAll_cons_mk (Below.trod hl ht0.1 ht0.2 h1 hb (fun x hx => hp x (by simp [hx]))) (ih (fun t h => ht t (by simp [h])) h2 (fun x hx => hp x (by simp [hx])))

/-- what a law's row asks behind the call: true; nothing that was there has turned -/
theorem post_true {f : Func} {s : ChangeSpec} {W W' : World} {args : Array Value} {ds : List (DataW H)} {before : List MemPlace} {bt : TypeId} (hbt : P.underlying bt = some .bool) (hrt : f.resultTypes = #[bt]) (hvars : s.vars = [])
    (hW : DataW.Whole enc P f.params.toList s.vars false W args.toList ds [] before) (hres : (s.fn H (ds ++ [])).results = [.lit (.bool true)]) (hargs : (s.fn H (ds ++ [])).args = ds) (hvs : (s.fn H (ds ++ [])).vars = [])
    (hl : laidOutB P = true) (hread : ∀ t ∈ f.params.toList, P.readableRec t = true ∧ t < P.types.size) (hb : Below W.heap.size W W') :
    s.post enc P f false true false false W args (.bool true) W' := by
  have hlt := hW.lt
  have hW0 := hW
  obtain ⟨p, q, hA, hV, rfl, hfz, _⟩ := hW
  have hq : q = [] := by rw [hvars] at hV; exact hV
  subst hq
  refine ⟨ds, [], p ++ [], [], p, [], hW0, ?_, ?_, ?_, hb.frame _, fun h => by cases h⟩
  · rw [hres, hrt]
    exact trodAll_mk1 (shut_bool hbt true)
  · rw [hargs]
    exact trodAll_below hl hb hread hA (fun x hx => hlt x (by simp [hx]))
  · rw [hvars, hvs]; rfl
end
end Go.Tr
