/- slices.SortFunc over a table's windows. -/
import Derived.Test.YthmehknjdkbemaaDoorS3
import Derived.Test.YthmehknjdkbemaaDoorShelf
import Derived.Shelf.SlSortCmp.WholeK
namespace Go.Proofs
open Go.RowKit Go.Tr Go.Sort Go.Shelf

def cmpI (a b : Int) : Int := if a < b then -1 else if b < a then 1 else 0

theorem Tryd.isNaN_in (a : Int) (w : World) : Calls Tryd.prog 50 #[.int .i64 a] w fun e w' => e = .returned (.bool false) ∧ w = w' := by
  go_enter Tryd.func50, Tryd.ntmps50
  go_wp2
  go_ret
  exact ⟨by simp, rfl⟩
set_option maxHeartbeats 400000 in
theorem Tryd.cmp_in (a b : Int) (w : World) : Calls Tryd.prog 37 #[.int .i64 a, .int .i64 b] w fun e w' => e = .returned (.int .i64 (cmpI a b)) ∧ w = w' := by
  by_cases h : a < b
  · have e : cmpI a b = -1 := by unfold cmpI; rw [if_pos h]
    rw [e]
    clear e
    go_enter Tryd.func37, Tryd.ntmps37
    go_wp2_with (go_at_call 50; refine (Tryd.isNaN_in _ _).mono ?_; rintro e w' ⟨rfl, rfl⟩)
    go_ret
    exact ⟨rfl, rfl⟩
  · by_cases h' : b < a
    · have e : cmpI a b = 1 := by unfold cmpI; rw [if_neg h, if_pos h']
      rw [e]
      clear e
      go_enter Tryd.func37, Tryd.ntmps37
      go_wp2_with (go_at_call 50; refine (Tryd.isNaN_in _ _).mono ?_; rintro e w' ⟨rfl, rfl⟩)
      go_ret
      exact ⟨rfl, rfl⟩
    · have e : cmpI a b = 0 := by unfold cmpI; rw [if_neg h, if_neg h']
      rw [e]
      clear e
      go_enter Tryd.func37, Tryd.ntmps37
      go_wp2_with (go_at_call 50; refine (Tryd.isNaN_in _ _).mono ?_; rintro e w' ⟨rfl, rfl⟩)
      go_ret
      exact ⟨rfl, rfl⟩

def cmpW (x y : Win) : Int := cmpI x.2.1 y.2.1
theorem Tryd.begins_in (x y : Win) (w : World) : Calls Tryd.prog 29 #[.agg (encW x).toArray, .agg (encW y).toArray] w fun e w' => e = .returned (.int .i64 (cmpW x y)) ∧ ∃ q os', w' = grow (w.drewN q) os' := by
  have hc := fun w => Tryd.cmp_in x.2.1 y.2.1 w
  change ∀ w, Calls Tryd.prog 37 _ w (fun e w' => e = .returned (.int .i64 (cmpW x y)) ∧ w = w') at hc
  generalize cmpW x y = r at hc ⊢
  unfold encW
  have Hc := hide hc
  clear hc
  go_enter Tryd.func29, Tryd.ntmps29
  go_wp2_with (go_at_call 37; refine (Hc.out _).mono ?_; rintro e w' ⟨rfl, rfl⟩)
  go_ret
  exact ⟨rfl, 0, _, by rw [alloc_eq_grow, alloc_eq_grow, grow_grow]; rfl⟩

theorem ltOf_cmpW (x y : Win) : ltOf cmpW x y = decide (x.2.1 < y.2.1) := by
  unfold ltOf cmpW cmpI
  by_cases h1 : x.2.1 < y.2.1
  · simp [h1]
  · by_cases h2 : y.2.1 < x.2.1 <;> simp [h1, h2]
theorem swoW : SWO (ltOf cmpW) where
  irrefl x := by rw [ltOf_cmpW]; simp
  trans x y z h1 h2 := by rw [ltOf_cmpW] at *; simp at *; omega
  ntrans x y z h1 h2 := by rw [ltOf_cmpW] at *; simp at *; omega

theorem flat_row (L : List Win) : (flatK encW 3 L.toArray).toList = rowW L := by
  apply List.ext_getElem?
  intro t
  by_cases h : t < L.length * 3
  · have h3 : t / 3 < L.length := by omega
    obtain ⟨x, hx⟩ : ∃ x, L[t / 3]? = some x := ⟨_, List.getElem?_eq_getElem h3⟩
    obtain ⟨r0, r1, r2⟩ := rowW_at L (t / 3) x hx
    have hl : (flatK encW 3 L.toArray).toList[t]? = some ((encW (L.toArray[t / 3]!))[t % 3]!) := by
      simp [flatK, h]
    have hx' : L.toArray[t / 3]! = x := by
      rw [getElem!_pos _ _ (by simpa using h3)]
      rw [List.getElem?_eq_getElem h3] at hx
      simpa using hx
    rw [hl, hx']
    have hm : t % 3 = 0 ∨ t % 3 = 1 ∨ t % 3 = 2 := by omega
    rcases hm with hm | hm | hm
    · have e : (rowW L)[t]? = (rowW L)[t / 3 * 3]? := congrArg (fun i => (rowW L)[i]?) (by omega)
      rw [hm, e, r0]; rfl
    · have e : (rowW L)[t]? = (rowW L)[t / 3 * 3 + 1]? := congrArg (fun i => (rowW L)[i]?) (by omega)
      rw [hm, e, r1]; rfl
    · have e : (rowW L)[t]? = (rowW L)[t / 3 * 3 + 2]? := congrArg (fun i => (rowW L)[i]?) (by omega)
      rw [hm, e, r2]; rfl
  · rw [List.getElem?_eq_none (by simp; omega), List.getElem?_eq_none (by rw [rowW_length]; omega)]

theorem putRow_block (w : World) (g : Nat) (F cur : Array Value) (E : TypeId) (h : w.heap[g]? = some (.cells cur E (0, 0))) :
    (putRow id w g 0 F).heap[g]? = some (.cells (putCells id 0 F cur) E (0, 0)) := by
  simp only [putRow, mapBlock, Array.getElem?_modify, if_true, h]
  rfl
theorem putRow_far (w : World) (g k : Nat) (F : Array Value) (h : k ≠ g) : (putRow id w g 0 F).heap[k]? = w.heap[k]? := by
  simp only [putRow, mapBlock, Array.getElem?_modify]
  rw [if_neg (by omega)]
theorem putCells_take (F cur : Array Value) (h : F.size ≤ cur.size) : (putCells id 0 F cur).toList.take F.size = F.toList := by
  apply List.ext_getElem?
  intro i
  rw [List.getElem?_take]
  by_cases hi : i < F.size
  · rw [if_pos hi]
    simp only [putCells, Array.getElem?_toList, Array.getElem?_mapIdx]
    rw [Array.getElem?_eq_getElem (show i < cur.size by omega), Array.getElem?_eq_getElem hi]
    simp [hi]
  · rw [if_neg hi, List.getElem?_eq_none (by simpa using hi)]

/-- what the sort leaves: a row of the same place and length -/
theorem sorted_row {w : World} {g n c m : Nat} {L : List Win} {d : Array Win} {os : Array Obj} (ho : w.ownsRow 0 58 3 (.slice (some ⟨g, 0, none⟩) n c) n (rowW L)) (hL : L.length = n) (hn : 0 < n) (hd : d.size = n) :
    (sortWorldK encW 3 w g 0 m d os).ownsRow 0 58 3 (.slice (some ⟨g, 0, none⟩) n c) n (rowW d.toList) ∧ Fr (fun k => k = g) w (sortWorldK encW 3 w g 0 m d os) := by
  rcases ho.2 with ⟨_, h0⟩ | ⟨g', cap, cur, hv, hb, hg, hnc, hcm, hcs, htk⟩
  · omega
  · injection hv with hv1 hv2 hv3
    injection hv1 with hv1
    injection hv1 with hv1
    subst hv1
    subst hv3
    have hglt : g < w.heap.size := (Array.getElem?_eq_some_iff.1 hg).1
    have hfs : (flatK encW 3 d).size = n * 3 := by simp [hd]
    have hle : (flatK encW 3 d).size ≤ cur.size := by rw [hfs, hcs]; exact Nat.mul_le_mul_right _ hnc
    refine ⟨⟨by rw [rowW_length]; simp [hd], .inr ⟨g, c, putCells id 0 (flatK encW 3 d) cur, rfl, hb, ?_, hnc, hcm, by simpa [putCells] using hcs, ?_⟩⟩, ?_⟩
    · unfold sortWorldK putRowK
      rw [heap_grow_old _ _ (by simpa using hglt)]
      exact putRow_block _ _ _ _ _ hg
    · have := putCells_take (flatK encW 3 d) cur hle
      rw [hfs] at this
      rw [this, show d = d.toList.toArray by simp, flat_row]
    · unfold sortWorldK putRowK
      refine ⟨rfl, rfl, rfl, by simp [grow], fun k hk hne => ?_⟩
      rw [heap_grow_old _ _ (by simpa using hk), putRow_far _ _ _ _ hne]
      rfl

theorem holds_row {w : World} {g n c : Nat} {L : List Win} (ho : w.ownsRow 0 58 3 (.slice (some ⟨g, 0, none⟩) n c) n (rowW L)) (hL : L.length = n) (hn : 0 < n) : HoldsK encW 3 w g 0 L.toArray := by
  rcases ho.2 with ⟨_, h0⟩ | ⟨g', cap, cur, hv, hb, hg, hnc, hcm, hcs, htk⟩
  · omega
  · injection hv with hv1 hv2 hv3
    injection hv1 with hv1
    injection hv1 with hv1
    subst hv1
    intro j hj
    have hj' : j < n * 3 := by simpa [hL] using hj
    have hf : (flatK encW 3 L.toArray)[j]? = cur[j]? := by
      have h1 := congrArg (fun l : List Value => l[j]?) htk
      simp only [List.getElem?_take, if_pos hj'] at h1
      rw [← flat_row] at h1
      simpa using h1.symm
    rw [Nat.zero_add]
    refine ⟨?_, by simp [World.frozen?, hg]⟩
    rw [cell_of_row w g j cur _ (0, 0) hg, ← hf]
    rw [Array.getElem?_eq_getElem hj]
    rw [getElem!_pos (flatK encW 3 L.toArray) j hj]
    rfl

set_option maxHeartbeats 400000 in
theorem Tryd.sort_in (g n c : Nat) (L : List Win) (w : World) (ho : w.ownsRow 0 58 3 (.slice (some ⟨g, 0, none⟩) n c) n (rowW L)) (hL : L.length = n) (hn : 0 < n) (hs : n < 4611686018427387904) :
    Calls Tryd.prog 28 #[.slice (some ⟨g, 0, none⟩) n c, .func (.func 29) #[] #[]] w fun e w' => e = .returned (.tuple #[]) ∧
      ∃ L' : List Win, L'.Perm L ∧ L'.Pairwise (fun x y => x.2.1 ≤ y.2.1) ∧ w'.ownsRow 0 58 3 (.slice (some ⟨g, 0, none⟩) n c) n (rowW L') ∧ Fr (fun k => k = g) w w' := by
  have eg : ∀ args w, (callFunc 29 args).run Tryd.prog w = .ok (.enter 29 args) w := enters_of Tryd.func29 (by kernel_rfl) rfl
  have hglt : g < w.heap.size := by
    rcases ho.2 with ⟨_, h0⟩ | ⟨g', cap, cur, hv, hb, hg, _⟩
    · omega
    · injection hv with hv1
      injection hv1 with hv1
      injection hv1 with hv1
      subst hv1
      exact (Array.getElem?_eq_some_iff.1 hg).1
  have hcon := AnyQ.slices_SortFunc Tryd.sortWin 3 Tryd.isAgg58 Tryd.sizeOf58 encW (fun _ => rfl) (fun x v hv => by simp [encW] at hv; rcases hv with rfl | rfl | rfl <;> rfl) cmpW swoW 29 #[] g 0 c L.toArray w eg
    (fun _ _ _ _ x y => Tryd.begins_in x y _) (holds_row ho hL hn) hglt (by simp; omega)
  change Calls Tryd.prog 28 #[.slice (some ⟨g, 0, none⟩) L.toArray.size c, .func (.func 29) #[] #[]] _ _ at hcon
  rw [show L.toArray.size = n by simpa using hL] at hcon
  refine hcon.mono ?_
  rintro e w' ⟨rfl, d', m, os, hp, hso, rfl⟩
  have hd' : d'.size = n := by rw [hp.1]; simpa using hL
  obtain ⟨r1, r2⟩ := sorted_row (m := m) (os := os) ho hL hn hd'
  refine ⟨rfl, d'.toList, ?_, ?_, r1, r2⟩
  · have := hp.2.2
    rw [show (d'.extract 0 n).toList = d'.toList by simp [← hd']] at this
    rw [show (L.toArray.extract 0 n).toList = L by simp [← hL]] at this
    exact this
  · rw [List.pairwise_iff_getElem]
    intro i j hi hj hij
    have := hso i j (Nat.zero_le _) hij (by simpa [hd'] using hj)
    rw [ltOf_cmpW, getElem!_pos _ _ (by simpa using hj), getElem!_pos _ _ (by simpa using hi)] at this
    simpa using this
end Go.Proofs
