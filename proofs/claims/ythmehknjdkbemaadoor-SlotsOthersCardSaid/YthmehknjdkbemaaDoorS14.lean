/- slices.Delete of one window, in place. -/
import Derived.Test.YthmehknjdkbemaaDoorS10
import Derived.Deep.Upon
import Derived.Deep.RegionLaw
namespace Go.Proofs
open Go.RowKit Go.Tr

theorem setCells_block (g : Nat) (E : TypeId) : ∀ (vs : List Value) (o : Nat) (w : World) (cur : Array Value), w.heap[g]? = some (.cells cur E (0, 0)) → ∃ cur', cur'.size = cur.size ∧ (w.setCells g o vs).heap[g]? = some (.cells cur' E (0, 0)) := by
  intro vs
  induction vs with
  | nil => intro o w cur h; exact ⟨cur, rfl, h⟩
  | cons v vs ih =>
    intro o w cur h
    obtain ⟨cur', h1, h2⟩ := ih (o + 1) (w.setCell ⟨g, o, none⟩ v) _ (Blk.set (t := E) h o v)
    exact ⟨cur', by simpa using h1, h2⟩
theorem setCells_fr (g : Nat) : ∀ (vs : List Value) (o : Nat) (w : World), Fr (fun k => k = g) w (w.setCells g o vs) := by
  intro vs
  induction vs with
  | nil => intro o w; exact Fr.refl _ w
  | cons v vs ih => intro o w; exact ((Fr.refl (fun k => k = g) w).setCell (p := ⟨g, o, none⟩) (fun _ => rfl) v).trans (ih (o + 1) _)

/-- a row is owned where its block's first cells are known -/
theorem own_of_cells {w : World} {g E n cap : Nat} {cur : Array Value} {xs : List Value} (hg : w.heap[g]? = some (.cells cur E (0, 0))) (hx : xs.length = n * 3) (hn : n ≤ cap) (hm : cap ≤ maxLen) (hs : cur.size = cap * 3)
    (hc : ∀ j, j < n * 3 → w.cell? ⟨g, j, none⟩ = xs[j]?) : w.ownsRow 0 E 3 (.slice (some ⟨g, 0, none⟩) n cap) n xs := by
  refine ⟨hx, .inr ⟨g, cap, cur, rfl, Nat.zero_le _, hg, hn, hm, hs, ?_⟩⟩
  apply List.ext_getElem?
  intro j
  rw [List.getElem?_take]
  by_cases hj : j < n * 3
  · rw [if_pos hj, ← hc j hj, cell_of_row w g j cur E (0, 0) hg]
    simp
  · rw [if_neg hj, List.getElem?_eq_none (by omega)]

theorem rowW_append (A B : List Win) : rowW (A ++ B) = rowW A ++ rowW B := by simp [rowW]

set_option maxRecDepth 100000 in
set_option maxHeartbeats 1000000 in
theorem Tryd.Delete_in (g n cap i : Nat) (L : List Win) (w : World) (ho : w.ownsRow 0 58 3 (.slice (some ⟨g, 0, none⟩) n cap) n (rowW L)) (hL : L.length = n) (hi : i < n) (hn : n ≤ 100000) :
    Calls Tryd.prog 31 #[.slice (some ⟨g, 0, none⟩) n cap, .int .i64 i, .int .i64 ((i : Int) + 1)] w fun e w' =>
      e = .returned (.slice (some ⟨g, 0, none⟩) (n - 1) cap) ∧ w'.ownsRow 0 58 3 (.slice (some ⟨g, 0, none⟩) (n - 1) cap) (n - 1) (rowW (L.eraseIdx i)) ∧ Fr (fun k => k = g) w w' := by
  obtain ⟨r, rfl⟩ : ∃ r, n = i + 1 + r := ⟨n - (i + 1), by omega⟩
  obtain ⟨i0, hi0, hz0, hz1, hz2⟩ := info_parts Tryd.infoW
  rcases ho.2 with ⟨h0, _⟩ | ⟨g', cap', cur, hv, _, hg, hnc, hcm, hcs, htk⟩
  · cases h0
  · injection hv with hv1 hv2 hv3
    injection hv1 with hv1
    injection hv1 with hv1
    subst hv1
    subst hv3
    have hrow : ∀ j, j < (i + 1 + r) * 3 → w.cell? ⟨g, j, none⟩ = (rowW L)[j]? := by
      intro j hj
      rw [cell_of_row w g j cur _ (0, 0) hg, ← htk, List.getElem?_take, if_pos hj]
      simp
    obtain ⟨news, hnews⟩ : ∃ news, news = rowW (L.drop (i + 1)) := ⟨_, rfl⟩
    have hlen : news.length = r * 3 := by rw [hnews, rowW_length]; simp; omega
    have hsplit : rowW L = rowW (L.take (i + 1)) ++ news := by rw [hnews, ← rowW_append, List.take_append_drop]
    have hsplit2 : rowW (L.eraseIdx i) = rowW (L.take i) ++ news := by rw [hnews, ← rowW_append, List.eraseIdx_eq_take_drop_succ]
    have hl1 : (rowW (L.take (i + 1))).length = (i + 1) * 3 := by rw [rowW_length]; simp; omega
    have hl0 : (rowW (L.take i)).length = i * 3 := by rw [rowW_length]; simp; omega
    have hnc' : ∀ t, t < r * 3 → w.cell? ⟨g, (i + 1) * 3 + t, none⟩ = news[t]? := by
      intro t ht
      rw [hrow _ (by omega), hsplit, List.getElem?_append_right (by omega), hl1]
      simp
    have h1 : Hid (∀ u ∈ news, u.oneCell' = true) := by
      intro u hu
      rw [hnews] at hu
      unfold rowW at hu
      obtain ⟨x, _, hx⟩ := List.mem_flatMap.1 hu
      simp [encW] at hx
      rcases hx with rfl | rfl | rfl <;> rfl
    obtain ⟨A, hA, hsrc⟩ : ∃ A : Addr, (if cap = i + 1 then some (⟨g, 0, none⟩ : Addr) else some ⟨g, (i + 1) * 3, none⟩) = some A ∧ Hid (∀ t u, news[t]? = some u → w.drew.cell? (A.add t) = some u) := by
      by_cases h : cap = i + 1
      · refine ⟨⟨g, 0, none⟩, by simp [h], fun t u hu => ?_⟩
        have hr : r = 0 := by omega
        have h0 : news.length = 0 := by rw [hlen, hr]
        rw [List.length_eq_zero_iff.1 h0] at hu
        simp at hu
      · refine ⟨⟨g, (i + 1) * 3, none⟩, by simp [h], fun t u hu => ?_⟩
        have ht : t < r * 3 := by
          have := (List.getElem?_eq_some_iff.1 hu).1
          omega
        have hadd : (⟨g, (i + 1) * 3, none⟩ : Addr).add t = ⟨g, (i + 1) * 3 + t, none⟩ := by unfold Addr.add; split <;> simp_all
        rw [hadd]
        exact (hnc' t ht).trans hu
    have hgl := (Array.getElem?_eq_some_iff.1 hg).1
    have hfz : ∀ o, w.frozen? ⟨g, o, none⟩ = false := fun o => by simp [World.frozen?, hg]
    have s1 : Hid (news.length = r * 3) := hlen
    have s3 : Hid (∀ t, t < news.length → (w.drew.cell? ⟨g, 0 + i * 3 + t, none⟩).isSome = true ∧ w.drew.frozen? ⟨g, 0 + i * 3 + t, none⟩ = false) := by
      intro t ht
      refine ⟨?_, hfz _⟩
      show (w.cell? _).isSome = true
      rw [cell_of_row w g _ cur _ (0, 0) hg]
      have : 0 + i * 3 + t < cur.size := by rw [hcs]; omega
      rw [Array.getElem?_eq_getElem this]
      rfl
    obtain ⟨W1, hW1⟩ : ∃ W1, W1 = w.drew.setCells g (0 + i * 3) news := ⟨_, rfl⟩
    obtain ⟨cur1, hs1, hg1⟩ := setCells_block g 58 news (0 + i * 3) w.drew cur hg
    rw [← hW1] at hg1
    have hfr1 : Fr (fun k => k = g) w W1 := by rw [hW1]; exact ((Fr.refl (fun k => k = g) w).drew).trans (setCells_fr g news _ _)
    obtain ⟨W2, hW2⟩ : ∃ W2, W2 = W1.setRow g (cur1.toList.take ((i + r) * 3) ++ [Value.int .i64 0, Value.int .i64 0, Value.int .i64 0] ++ cur1.toList.drop ((i + r) * 3 + 3)).toArray := ⟨_, rfl⟩
    have hsz1 : (i + r) * 3 + 3 ≤ cur1.toList.length := by rw [Array.length_toList, hs1, hcs]; omega
    have hcl : ∀ (ty : TypeId), (Builtin.clear_ #[54] ty #[.slice (some ⟨g, (i + r) * 3, none⟩) 1 (cap - (i + r))]).run Tryd.prog W1 = .ok (.tuple #[]) W2 := by
      intro ty
      have hst := run_storeCells_at (P := Tryd.prog) g ((i + r) * 3) 58 [Value.int .i64 0, Value.int .i64 0, Value.int .i64 0] 0 cur1 W1 hg1 (by simp at hsz1 ⊢; omega) (by intro v hv; simp at hv; subst hv; rfl)
      simp only [Nat.add_zero, List.length_cons, List.length_nil] at hst
      have hz : (zeroValue 58).run Tryd.prog W1 = .ok (.agg #[.int .i64 0, .int .i64 0, .int .i64 0]) W1 := Tryd.zeroValue58 _
      have hzc : (Builtin.zeroCells #[Value.int .i64 0, Value.int .i64 0, Value.int .i64 0] 1).toList = [Value.int .i64 0, Value.int .i64 0, Value.int .i64 0] := by kernel_rfl
      simp [Builtin.clear_, run_underlying Tryd.underlying54, hz, hzc, hst, Value.cells]
      rw [hW2]
      simp
    have hs2 : cur1.toList.take ((i + r) * 3) = rowW (L.eraseIdx i) := by
      apply List.ext_getElem?
      intro j
      rw [List.getElem?_take]
      by_cases hj : j < (i + r) * 3
      · rw [if_pos hj]
        have e1 : cur1.toList[j]? = W1.cell? ⟨g, j, none⟩ := by rw [cell_of_row W1 g j cur1 _ (0, 0) hg1]; simp
        rw [e1, hsplit2, hW1]
        by_cases hji : j < i * 3
        · rw [World.cell?_setCells_out g news (0 + i * 3) w.drew ⟨g, j, none⟩ (fun _ _ => .inl (show j < 0 + i * 3 by omega)), List.getElem?_append_left (by omega)]
          show w.cell? ⟨g, j, none⟩ = _
          rw [hrow j (by omega), hsplit, List.getElem?_append_left (by omega)]
          have : L.take (i + 1) = L.take i ++ (L.drop i).take 1 := by rw [List.take_add]
          rw [this, rowW_append, List.getElem?_append_left (by omega)]
        · have hin := World.cell?_setCells_in g news (0 + i * 3) w.drew (fun t ht => (s3.out t ht).1) (j - i * 3) (by omega)
          rw [show 0 + i * 3 + (j - i * 3) = j by omega] at hin
          rw [hin, List.getElem?_append_right (by omega), hl0, List.getElem?_eq_getElem (by omega)]
      · rw [if_neg hj, List.getElem?_eq_none (by rw [hsplit2, List.length_append]; omega)]
    have hown : W2.ownsRow 0 58 3 (.slice (some ⟨g, 0, none⟩) (i + r) cap) (i + r) (rowW (L.eraseIdx i)) := by
      refine ⟨by rw [hsplit2, List.length_append]; omega, .inr ⟨g, cap, _, rfl, Nat.zero_le _, by rw [hW2]; exact setRow_heap W1 g cur1 _ _ _ hg1, by omega, hcm, ?_, ?_⟩⟩
      · simp at hsz1 ⊢; omega
      · rw [← hs2]
        simp only [List.append_assoc]
        rw [List.take_append_of_le_length (by simp at hsz1 ⊢; omega), List.take_take, Nat.min_self]
    have hfr2 : Fr (fun k => k = g) w W2 := by
      refine hfr1.trans ⟨by rw [hW2]; rfl, by rw [hW2]; rfl, by rw [hW2]; rfl, by rw [hW2]; simp [World.setRow], fun k _ hne => ?_⟩
      rw [hW2]
      exact setRow_other W1 g k _ hne
    have Hi1 := hide hi0
    have Hi2 := hide hz1
    have hcl' : ∀ (ty : TypeId), (Builtin.clear_ #[54] ty #[.slice (some ⟨g, (i + r) * 3, none⟩) (i + 1 + r - (i + r)) (cap - (i + r))]).run Tryd.prog W1 = .ok (.tuple #[]) W2 := by
      rw [show i + 1 + r - (i + r) = 1 by omega]
      exact hcl
    clear hcl
    have HW1 := hide hW1
    have Hown := hide hown
    have Hfr2 := hide hfr2
    have q1 : 0 ≤ (i : Int) + 1 := by omega
    have q2 : (i : Int) + 1 ≤ (i : Int) + 1 + r := by omega
    have hc1 : i ≤ cap := by omega
    have hc2 : i + 1 ≤ cap := by omega
    have hc3 : i + 1 + r ≤ cap := hnc
    unfold maxLen at hcm
    clear ho hg hcs htk hrow hnews hlen hsplit hsplit2 hl1 hl0 hnc' hfz hg1 hs1 hsz1 hs2 hown hfr2 hfr1 hW1 hW2 hi0 hz0 hz1 hz2 hL hv2
    go_enter Tryd.func31, Tryd.ntmps31
    go_wp2_with fail
    go_region_law (refine step_append_room rfl (.tmp 22) (.tmp 25) 54 rfl 58 i0 3 Tryd.underlying54 Hi1.out Hi2.out g 0 i cap (by simp [Act.eval, Act.put]) A r (cap - (i + 1)) news (by simp [Act.eval, Act.put]) s1.out hsrc.out h1.out (by omega) s3.out ?_; rw [← HW1.out])
    go_wp2
    go_ret
    exact ⟨by rw [show i + 1 + r - 1 = i + r by omega]; rfl, by rw [show i + 1 + r - 1 = i + r by omega]; exact Hown.out, Hfr2.out⟩
end Go.Proofs
