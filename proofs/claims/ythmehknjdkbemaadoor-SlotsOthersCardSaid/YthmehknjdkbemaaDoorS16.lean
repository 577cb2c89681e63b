/- The contracts of slots.Slots and of the reference's Same. -/
import Derived.Test.YthmehknjdkbemaaDoorS15
import Derived.Laws.StructEq
namespace Go.Proofs
open Go.RowKit Go.Tr

theorem Tryd.infoS : (Tryd.prog.info? 38).map (fun i => (i.zero, i.size, i.bytes)) = some (some (.agg #[.int .i64 0, .int .i64 0, .int .i64 0]), 3, 24) := by kernel_rfl

/-- a slice of slots that reads as L -/
def SlotRow (w : World) (A : Option Addr) (L : List Win) : Prop :=
  0 < L.length → ∃ g, A = some ⟨g, 0, none⟩ ∧ g < w.heap.size ∧ ∀ (k : Nat) (x : Win), L[k]? = some x → w.cell? ⟨g, k * 3, none⟩ = some (.int .i64 x.1) ∧ w.cell? ⟨g, k * 3 + 1, none⟩ = some (.int .i64 x.2.1) ∧ w.cell? ⟨g, k * 3 + 2, none⟩ = some (.int .i64 x.2.2)
theorem SlotRow.of_own {w : World} {base E c : Nat} {A : Option Addr} {L : List Win} (ho : w.ownsRow base E 3 (.slice A L.length c) L.length (rowW L)) : SlotRow w A L := by
  intro hn
  obtain ⟨g, cap, hv, hlt⟩ : ∃ g cap, Value.slice A L.length c = .slice (some ⟨g, 0, none⟩) L.length cap ∧ g < w.heap.size := by
    rcases ho.2 with ⟨_, h0⟩ | ⟨g, cap, cur, hv, _, hg, _⟩
    · omega
    · exact ⟨g, cap, hv, (Array.getElem?_eq_some_iff.1 hg).1⟩
  injection hv with hA
  subst hA
  refine ⟨g, rfl, hlt, fun k x hx => ?_⟩
  obtain ⟨h0, h1, h2⟩ := rowW_at L k x hx
  have hc := ho.cells (g := g) rfl
  have ha : ∀ n, (⟨g, 0, none⟩ : Addr).add n = ⟨g, n, none⟩ := fun n => by unfold Addr.add; split <;> simp_all
  simp only [ha] at hc
  exact ⟨hc _ _ h0, hc _ _ h1, hc _ _ h2⟩
theorem SlotRow.keep {w w' : World} {A : Option Addr} {L : List Win} (h : SlotRow w A L) (hs : w.heap.size ≤ w'.heap.size) (hk : ∀ a k, A = some a → a.block < w.heap.size → w'.cell? ⟨a.block, k, none⟩ = w.cell? ⟨a.block, k, none⟩) : SlotRow w' A L := by
  intro hn
  obtain ⟨g, rfl, hg, hc⟩ := h hn
  refine ⟨g, rfl, Nat.lt_of_lt_of_le hg hs, fun k x hx => ?_⟩
  obtain ⟨c0, c1, c2⟩ := hc k x hx
  have := fun k => hk ⟨g, 0, none⟩ k rfl hg
  exact ⟨(this _).trans c0, (this _).trans c1, (this _).trans c2⟩
theorem SlotRow.below {w w' : World} {A : Option Addr} {L : List Win} (h : SlotRow w A L) (hb : Below w.heap.size w w') : SlotRow w' A L :=
  h.keep hb.size (fun a k _ hlt => hb.cell (p := ⟨a.block, k, none⟩) hlt)
theorem SlotRow.drewN {w : World} {A : Option Addr} {L : List Win} (h : SlotRow w A L) (q : Nat) : SlotRow (w.drewN q) A L := h

set_option maxHeartbeats 1000000 in
theorem Tryd.Slots_in (F : Nat → Prop) (b N : Nat) (L : List Win) (w : World) (ht : Tab w F b N L) (hn : L.length ≤ 256) :
    Calls Tryd.prog 14 #[.pointer (some ⟨b, 0, none⟩)] w fun e w' => ∃ A c, e = .returned (.slice A L.length c) ∧ w'.ownsRow w.heap.size 38 3 (.slice A L.length c) L.length (rowW L) ∧ Below w.heap.size w w' := by
  obtain ⟨A, c, hT, hW, hb⟩ := ht
  have hsl : w.cell? ⟨b, 5, none⟩ = some (.slice A L.length c) := Blk.cell hT 5
  obtain ⟨i0, hi, hz0, hz1, hz2⟩ := info_parts Tryd.infoS
  have Hi : Hid (Tryd.prog.info? 38 = some i0 ∧ i0.zero = some (.agg #[.int .i64 0, .int .i64 0, .int .i64 0]) ∧ i0.size = 3 ∧ i0.bytes = 24) := ⟨hi, hz0, hz1, hz2⟩
  have HW := hide hW
  clear hT hW hi hz0 hz1 hz2
  go_enter Tryd.func14, Tryd.ntmps14
  go_wp2
  go_loopw [3, 5, 11] (fun v _ i wr => ∃ (k : Nat) (A' : Option Addr) (c' : Nat), k ≤ L.length ∧ i = .int .i64 k ∧ v = .slice A' (L.take k).length c' ∧ wr.ownsRow w.heap.size 38 3 (.slice A' (L.take k).length c') (L.take k).length (rowW (L.take k)) ∧ Below w.heap.size w wr) (fun _ _ i _ => L.length - (intOf i).toNat)
  case atStart => exact ⟨0, none, 0, Nat.zero_le _, rfl, rfl, World.ownsRow_nil _ _ _ _, Below.refl _ _⟩
  case round =>
    obtain ⟨k, A', c', hk, rfl, rfl, hown, hB⟩ := hrel
    by_cases hlt : k < L.length
    · obtain ⟨g, rfl, hg, _, hcs⟩ := HW.out.at (by omega)
      obtain ⟨x, hx⟩ : ∃ x, L[k]? = some x := ⟨L[k], List.getElem?_eq_getElem hlt⟩
      obtain ⟨c0, c1, c2⟩ := hcs k x hx
      have d0 := (hB.cell (p := ⟨g, k * 3, none⟩) hg).trans c0
      have d1 := (hB.cell (p := ⟨g, k * 3 + 1, none⟩) hg).trans c1
      have d2 := (hB.cell (p := ⟨g, k * 3 + 2, none⟩) hg).trans c2
      have hsz := hB.size
      have hkl : (L.take k).length ≤ k := by simp; omega
      have M := hide (take_at hx)
      have Ho := hide hown
      have HB := hide hB
      obtain ⟨hi, hz0, hz1, hz2⟩ := Hi.out
      have Hi1 := hide hi
      have Hi2 := hide hz0
      have Hi3 := hide hz1
      have Hi4 := hide hz2
      clear hcs c0 c1 c2 hx hown hB hi hz0 hz1 hz2
      generalize L.take k = K at *
      go_wp2_with (at_builtin; refine wpList_append_lies _ rfl (.tmp 15) (.tmp 17) 35 rfl w.heap.size 38 i0 (.agg #[.int .i64 0, .int .i64 0, .int .i64 0]) 3 24 Tryd.underlying35 Hi1.out Hi2.out Hi3.out Hi4.out rfl (by decide) (.slice A' K.length c') K.length (rowW K) rfl (World.ownsRow.alloc (World.ownsRow.alloc Ho.out _) _) ⟨wr.heap.size + 1, 0, none⟩ 1 1 [.int .i64 x.1, .int .i64 x.2.1, .int .i64 x.2.2] rfl rfl (World.news_of_block (B := wr.heap.size + 1) (by have := heap_alloc_new (wr.alloc (.cells #[.int .i64 x.1, .int .i64 x.2.1, .int .i64 x.2.2] 58)) (.cells #[.int .i64 x.1, .int .i64 x.2.1, .int .i64 x.2.2] 38); rwa [World.size_alloc] at this)) (by intro u hu; simp at hu; rcases hu with rfl | rfl | rfl <;> rfl) (by omega) (by unfold maxLen; omega) (by omega) (by simp; omega) _ rfl ?_; intro g2 cap w2 hown2 hgrow hat hlt2)
      go_roundw
      case rel =>
        have hr := Ho.out.lt
        refine ⟨k + 1, some ⟨g2, 0, none⟩, cap, hlt, by go_num, by rw [M.out]; simp, ?_, ?_⟩
        · rw [M.out, ← rowW_snoc]
          simpa using hown2
        · exact ((HB.out.alloc HB.out.size _).alloc (by simp; omega) _).grown hgrow (by simp; omega) (fun j hj => (hr j hj).1)
      case measure => simp [intOf]; omega
    · obtain rfl : k = L.length := by omega
      rw [List.take_length] at *
      have Ho := hide hown
      have HB := hide hB
      clear hown hB
      go_wp2
      go_ret
      exact ⟨A', c', rfl, Ho.out, HB.out⟩

theorem Tryd.neqS (a b c d e f : Int) (w : World) : (binOp .neq 38 (.agg #[.int .i64 a, .int .i64 b, .int .i64 c]) (.agg #[.int .i64 d, .int .i64 e, .int .i64 f])).run Tryd.prog w = .ok (.bool (!(a == d && b == e && c == f))) w := by
  have u3 := Tryd.underlying3
  have a3 := Tryd.isAgg3
  have z3 := Tryd.sizeOf3
  have hS : Tryd.prog.underlying 38 = some (.struct (Tryd.prog.fieldsOf 38)) := by kernel_rfl
  have hp : Tryd.prog.stoodInHeld 38 = false := by kernel_rfl
  rw [run_neq_struct, show (10000 : Nat) = 9999 + 1 from rfl, run_equalIn_agg w 9999 38 _ _ hS hp]
  simp only [Program.fieldsOf, Tryd.underlying38]
  go_simp
  by_cases h1 : a = d <;> by_cases h2 : b = e <;> by_cases h3 : c = f <;> simp [h1, h2, h3]
end Go.Proofs
