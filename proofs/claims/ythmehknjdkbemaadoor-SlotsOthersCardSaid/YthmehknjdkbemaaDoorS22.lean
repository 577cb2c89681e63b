/- The law SlotsOthers: its walk. -/
import Derived.Test.YthmehknjdkbemaaDoorS20
namespace Go.Proofs
open Go.RowKit Go.Tr

theorem below_drewN {B : Nat} {a w : World} (h : Below B a w) (q : Nat) : Below B a (w.drewN q) := ⟨h.os, h.tape, h.output, h.size, h.block⟩
theorem keepP_take {L : List Win} {k : Nat} {x : Win} (p : Int) (h : L[k]? = some x) : keepP p (L.take (k + 1)) = keepP p (L.take k) ++ (if ((x.1 : Int) != p) = true then [x] else []) := by
  rw [take_at h]
  unfold keepP
  rw [List.filter_append, List.filter_cons, List.filter_nil]
theorem keepP_ins {N : Nat} {L : List Win} (hL : OkW N L) {p : Int} {x : Win} (hx : (x.1 : Int) = p) : keepP p (insW L x) = keepP p L := by
  have hs := split_from hL x.2.1
  have : keepP p (L.filter (fun y => decide (y.2.1 < x.2.1)) ++ L.filter (fun y => decide (x.2.1 ≤ y.2.1))) = keepP p L := by rw [hs]
  rw [← this]
  unfold keepP insW
  rw [List.filter_append, List.filter_append, List.filter_cons]
  simp [hx]
theorem others_place {N : Nat} {L : List Win} (hL : OkW N L) (p f m : Int) : keepP p (placeL N L p f m) = keepP p L ∧ (placeC N L p f m = 0 ∨ placeL N L p f m = L) := by
  unfold placeL
  by_cases h : placeC N L p f m = 0
  · rw [if_pos h]
    obtain ⟨h1, _⟩ := placeC_free h
    exact ⟨keepP_ins hL (by simp; omega), .inl h⟩
  · rw [if_neg h]; exact ⟨rfl, .inr rfl⟩
theorem others_insert {N : Nat} {L : List Win} (hL : OkW N L) (p m : Int) : keepP p (insL N L p m) = keepP p L ∧ ((insC N L p m).2 = 0 ∨ insL N L p m = L) := by
  unfold insL insC
  by_cases h : p < 0 ∨ 8 ≤ p ∨ m < 1
  · rw [if_pos h, if_pos h]; exact ⟨rfl, .inr rfl⟩
  · rw [if_neg h, if_neg h]
    cases hg : gapAt N L m.toNat with
    | none => exact ⟨rfl, .inr rfl⟩
    | some f => exact ⟨keepP_ins hL (by simp; omega), .inl rfl⟩
theorem others_move {N : Nat} {L : List Win} (hL : OkW N L) (p f t : Int) : keepP p (moveL N L p f t) = keepP p L ∧ (moveC N L p f t = 0 ∨ moveL N L p f t = L) := by
  unfold moveL moveC
  cases hk : moveK p f L with
  | none => exact ⟨rfl, .inr rfl⟩
  | some k =>
    obtain ⟨x, hx, hat, -⟩ := moveK_some hk
    dsimp only
    have hp : (x.1 : Int) = p := by simp only [isAt, Bool.and_eq_true, beq_iff_eq] at hat; exact hat.1
    obtain ⟨e1, e2⟩ := split_at hx
    have he : keepP p (L.eraseIdx k) = keepP p L := by
      rw [e2]
      conv => rhs; rw [e1]
      unfold keepP
      rw [List.filter_append, List.filter_append, List.filter_cons]
      simp [hp]
    by_cases h : placeC N (L.eraseIdx k) p t (lenAt L k) = 0
    · rw [if_pos h]
      refine ⟨?_, .inl h⟩
      rw [(others_place (hL.sub (List.eraseIdx_sublist _ _)) p t (lenAt L k)).1, he]
    · rw [if_neg h]; exact ⟨rfl, .inr rfl⟩
theorem others_remove (p : Int) (L : List Win) : keepP p (keepP p L) = keepP p L := by
  unfold keepP
  rw [List.filter_filter]
  simp

set_option maxRecDepth 100000 in
set_option maxHeartbeats 8000000 in
theorem Tryd.Others_in (a0 : Option Addr) (len cap : Nat) (o0 p o2 o3 : Int) (ops : Nat → Int × Int × Int × Int) (w : World) (hlen : len ≤ 9223372036854775807) (ho3 : o3 ≤ 9223372036854775807) (hTb : Tbl w) (hO : OpsAt w a0 len ops) (h4 : ∀ i, i < len → (ops i).2.2.2 ≤ 9223372036854775807) :
    Calls Tryd.prog 5 #[.slice a0 len cap, .agg #[.int .i64 o0, .int .i64 p, .int .i64 o2, .int .i64 o3]] w fun e w' => e = .returned (.bool true) ∧ Below w.heap.size w w' := by
  have HTb := hide hTb
  have HO := hide hO
  have H4 := hide h4
  clear hTb hO h4
  have hb0 : Below w.heap.size w (w.alloc (.cells #[.int .i64 o0, .int .i64 p, .int .i64 o2, .int .i64 o3] 30)) := (Below.refl _ _).alloc (Nat.le_refl _) _
  have HB0 := hide hb0
  have hblk : Blk (w.alloc (.cells #[.int .i64 o0, .int .i64 p, .int .i64 o2, .int .i64 o3] 30)) w.heap.size 30 #[.int .i64 o0, .int .i64 p, .int .i64 o2, .int .i64 o3] := heap_alloc_new _ _
  have x0 : (w.alloc (.cells #[.int .i64 o0, .int .i64 p, .int .i64 o2, .int .i64 o3] 30)).cell? ⟨w.heap.size, 0, none⟩ = some (.int .i64 o0) := Blk.cell hblk 0
  have x1 : (w.alloc (.cells #[.int .i64 o0, .int .i64 p, .int .i64 o2, .int .i64 o3] 30)).cell? ⟨w.heap.size, 1, none⟩ = some (.int .i64 p) := Blk.cell hblk 1
  have x2 : (w.alloc (.cells #[.int .i64 o0, .int .i64 p, .int .i64 o2, .int .i64 o3] 30)).cell? ⟨w.heap.size, 2, none⟩ = some (.int .i64 o2) := Blk.cell hblk 2
  have x3 : (w.alloc (.cells #[.int .i64 o0, .int .i64 p, .int .i64 o2, .int .i64 o3] 30)).cell? ⟨w.heap.size, 3, none⟩ = some (.int .i64 o3) := Blk.cell hblk 3
  have hxs : w.heap.size < (w.alloc (.cells #[.int .i64 o0, .int .i64 p, .int .i64 o2, .int .i64 o3] 30)).heap.size := by simp
  have HX := hide (And.intro x0 (And.intro x1 (And.intro x2 x3)))
  have HXS := hide hxs
  have htb0 := hide (HTb.out.below hb0 HTb.out.pos)
  clear hb0 hblk x0 x1 x2 x3 hxs
  go_enter Tryd.func5, Tryd.ntmps5
  by_cases hg : 40 < len
  · have d1 : decide (40 < (len : Int)) = true := decide_eq_true (by omega)
    go_wp2_with fail
    generalize w.alloc (.cells #[.int .i64 o0, .int .i64 p, .int .i64 o2, .int .i64 o3] 30) = W at *
    refine (Tryd.awake_in W htb0.out).mono ?_
    rintro e w1 ⟨rfl, hB1⟩
    go_wp2_with fail
    refine (Tryd.New_st 40 W w1 (by omega) (by omega) hB1 htb0.out).mono ?_
    rintro e w2 ⟨rfl, h2⟩
    have HB := hide (HB0.out.trans (h2.below.mono (Nat.le_of_lt HXS.out)))
    clear h2 hB1
    go_wp2
    go_ret
    exact ⟨rfl, HB.out⟩
  have hl : len ≤ 40 := by omega
  clear hg hlen
  have d1 : decide (40 < (len : Int)) = false := decide_eq_false (by omega)
  go_wp2_with fail
  generalize w.alloc (.cells #[.int .i64 o0, .int .i64 p, .int .i64 o2, .int .i64 o3] 30) = W at *
  have HOW : Hid (OpsAt W a0 len ops) := hide (fun hn => by
    obtain ⟨ab, off, h1, hab, hcs⟩ := HO.out hn
    refine ⟨ab, off, h1, Nat.lt_trans hab HXS.out, fun i hi => ?_⟩
    obtain ⟨c0, c1, c2, c3⟩ := hcs i hi
    exact ⟨(HB0.out.cell (p := ⟨ab, _, none⟩) hab).trans c0, (HB0.out.cell (p := ⟨ab, _, none⟩) hab).trans c1, (HB0.out.cell (p := ⟨ab, _, none⟩) hab).trans c2, (HB0.out.cell (p := ⟨ab, _, none⟩) hab).trans c3⟩)
  clear HO
  have hbxe := hide (show w.heap.size = w.heap.size from rfl)
  generalize hbx0 : w.heap.size = bx at HX HXS ⊢
  have HBX := hide hbx0
  clear hbx0 hbxe
  refine (Tryd.awake_in W htb0.out).mono ?_
  rintro e w1 ⟨rfl, hB1⟩
  go_wp2_with fail
  refine (Tryd.New_st 40 W w1 (by omega) (by omega) hB1 htb0.out).mono ?_
  rintro e w2 ⟨rfl, hS2⟩
  have HS2 := hide hS2
  clear hS2 hB1
  generalize w1.heap.size = b at *
  go_wp2
  go_loopw [8] (fun i wr => ∃ (k : Nat) (L : List Win), k ≤ len ∧ i = .int .i64 k ∧ St W wr b 40 L) (fun i _ => len - (intOf i).toNat)
  case atStart => exact ⟨0, [], Nat.zero_le _, rfl, HS2.out⟩
  case round =>
    obtain ⟨k, L, hk, rfl, hS⟩ := hrel
    have HS := hide hS
    clear hS
    by_cases hlt : k < len
    · obtain ⟨ab, off, rfl, hab, hcs⟩ := HOW.out (by omega)
      obtain ⟨c0, c1, c2, c3⟩ := hcs k hlt
      have e1 := (HS.out.below.cell (p := ⟨ab, off + k * 4 + 1, none⟩) hab).trans c1
      have e3 := (HS.out.below.cell (p := ⟨ab, off + k * 4 + 3, none⟩) hab).trans c3
      have h4 := H4.out k hlt
      clear hcs c0 c1 c2 c3
      generalize ops k = q at *
      obtain ⟨q0, q1, q2, q3⟩ := q
      dsimp only at e1 e3 h4
      go_wp2
      go_still_tail 11, (by kernel_rfl)
      change wpList _ _ _ _ _ wr.drew
      go_wp2_with (go_at_call 12; refine (Tryd.Insert_st (HS.out.drewN 1) q1 q3 h4).mono ?_; rintro e w4 ⟨rfl, hS4⟩)
      have HS4 := hide hS4
      clear hS4
      go_roundw
      case rel => exact ⟨k + 1, _, hlt, by go_num, HS4.out⟩
      case measure => simp [intOf]; omega
    · obtain rfl : k = len := by omega
      clear HS2
      go_wp2_with fail
      refine (Tryd.Slots_out HS.out).mono ?_
      rintro e w3 ⟨A, c, rfl, hR3, hS3, -⟩
      have HS3 := hide hS3
      have HR3 := hide hR3
      have hok := hide hS3.ok
      have hL256 : L.length ≤ 256 := by have := hS3.ok.length; omega
      have y0 := (hS3.below.cell (p := ⟨bx, 0, none⟩) HXS.out).trans HX.out.1
      have y1 := (hS3.below.cell (p := ⟨bx, 1, none⟩) HXS.out).trans HX.out.2.1
      have y2 := (hS3.below.cell (p := ⟨bx, 2, none⟩) HXS.out).trans HX.out.2.2.1
      have y3 := (hS3.below.cell (p := ⟨bx, 3, none⟩) HXS.out).trans HX.out.2.2.2
      clear hS3 hR3 HS
      have hGA : ∀ a, A = some a → (fun k => ∃ a, A = some a ∧ k = a.block) a.block := fun a h => ⟨a, h, rfl⟩
      have HGA := hide hGA
      clear hGA
      obtain ⟨i0, hi, hz0, hz1, hz2⟩ := info_parts Tryd.infoS
      have Hi : Hid (Tryd.prog.info? 38 = some i0 ∧ i0.zero = some (.agg #[.int .i64 0, .int .i64 0, .int .i64 0]) ∧ i0.size = 3 ∧ i0.bytes = 24) := ⟨hi, hz0, hz1, hz2⟩
      clear hi hz0 hz1 hz2
      by_cases hd0 : o0 = 0
      · subst hd0
        have hc := Tryd.Insert_g HS3.out p o3 ho3
        have hq := others_insert hok.out p o3
        generalize insL 40 L p o3 = L' at hc hq
        generalize (insC 40 L p o3).2 = cd at hc hq
        have Hc := hide hc
        have Hk := hide hq.1
        have hz := hq.2
        clear hc hq
        go_wp2_with fail
        refine Hc.out.mono ?_
        rintro e w4 ⟨rfl, hS4, hK4⟩
        have HS4 := hide hS4
        have HR4 := hide (HR3.out.kept hK4 HGA.out)
        clear hS4 hK4 y0 y1 y2 y3 Hc HS3 HR3
        go_wp2_with fail
        refine (Tryd.Slots_g HS4.out).mono ?_
        rintro e w5 ⟨A2, c2, rfl, hR5, hS5, hB5⟩
        have HS5 := hide hS5
        have HR5 := hide hR5
        have HR4' := hide (HR4.out.below hB5)
        have hM256 : L'.length ≤ 256 := by have := hS5.ok.length; omega
        clear hS5 hR5 hB5 HS4 HR4
        by_cases hc0 : cd = 0
        · subst hc0
          have hs := Tryd.Same_any A A2 c c2 L L' w5 HR4'.out HR5.out (by omega) (by omega)
          generalize decide (L = L') = sm at hs
          have Hs := hide hs
          clear hs hz
          go_wp2_with fail
          refine Hs.out.mono ?_
          rintro e w6 ⟨rfl, q6, rfl⟩
          have z1 := (HS5.out.below.cell (p := ⟨bx, 1, none⟩) HXS.out).trans HX.out.2.1
          have hbx : bx < w5.heap.size := Nat.lt_of_lt_of_le HXS.out HS5.out.below.size
          have z1' : (w5.drewN q6).cell? ⟨bx, 1, none⟩ = some (.int .i64 p) := z1
          have hbx' : bx < (w5.drewN q6).heap.size := hbx
          have HR6 := hide (HR4'.out.drewN q6)
          have HM6 := hide (HR5.out.drewN q6)
          have HB6 := hide (HB0.out.trans ((HS5.out.drewN q6).below.mono (Nat.le_trans (Nat.le_of_eq HBX.out) (Nat.le_of_lt HXS.out))))
          clear z1 hbx HS5 HR5 HR4' Hs
          generalize w5.drewN q6 = w6 at *
          go_wp2
          go_loopw [15, 17] (fun v i wr => ∃ (k : Nat) (A' : Option Addr) (c' : Nat), k ≤ L.length ∧ i = .int .i64 k ∧ v = .slice A' (keepP p (L.take k)).length c' ∧ wr.ownsRow w6.heap.size 38 3 (.slice A' (keepP p (L.take k)).length c') (keepP p (L.take k)).length (rowW (keepP p (L.take k))) ∧ Below w6.heap.size w6 wr) (fun _ i _ => L.length - (intOf i).toNat)
          case atStart => exact ⟨0, none, 0, Nat.zero_le _, rfl, rfl, World.ownsRow_nil _ _ _ _, Below.refl _ _⟩
          case round =>
            obtain ⟨ka, Aa', ca', hka, rfl, rfl, hown, hB⟩ := hrel
            by_cases hlt : ka < L.length
            · obtain ⟨g, rfl, hg, hcs⟩ := HR6.out (by omega)
              obtain ⟨x, hx⟩ : ∃ x, L[ka]? = some x := ⟨L[ka], List.getElem?_eq_getElem hlt⟩
              obtain ⟨c0, c1, c2⟩ := hcs ka x hx
              have d0 := (hB.cell (p := ⟨g, ka * 3, none⟩) hg).trans c0
              have d1 := (hB.cell (p := ⟨g, ka * 3 + 1, none⟩) hg).trans c1
              have d2 := (hB.cell (p := ⟨g, ka * 3 + 2, none⟩) hg).trans c2
              have dp := (hB.cell (p := ⟨bx, 1, none⟩) hbx').trans z1'
              have hsz := hB.size
              have hkl : (keepP p (L.take ka)).length ≤ ka := by
                have := List.length_filter_le (fun x : Win => (x.1 : Int) != p) (L.take ka)
                have h2 : (L.take ka).length ≤ ka := by simp; omega
                unfold keepP; omega
              have M := keepP_take p hx
              obtain ⟨hi, hz0, hz1, hz2⟩ := Hi.out
              have Hi1 := hide hi
              have Hi2 := hide hz0
              have Hi3 := hide hz1
              have Hi4 := hide hz2
              have Ho := hide hown
              have HB := hide hB
              clear hcs c0 c1 c2 hx hown hB hi hz0 hz1 hz2
              cases hne : ((x.1 : Int) != p) with
              | true =>
                rw [if_pos hne] at M
                have HM := hide M
                clear M
                generalize keepP p (L.take ka) = K at *
                go_wp2
                go_quiet (fail)
                go_wp2_with (at_builtin; refine wpList_append_lies _ rfl (.tmp 126) (.tmp 131) 35 rfl w6.heap.size 38 i0 (.agg #[.int .i64 0, .int .i64 0, .int .i64 0]) 3 24 Tryd.underlying35 Hi1.out Hi2.out Hi3.out Hi4.out rfl (by decide) (.slice Aa' K.length ca') K.length (rowW K) rfl (World.ownsRow.alloc Ho.out _) ⟨wr.heap.size, 0, none⟩ 1 1 [.int .i64 x.1, .int .i64 x.2.1, .int .i64 x.2.2] rfl rfl (World.news_of_block (B := wr.heap.size) (heap_alloc_new _ _)) (by intro u hu; simp at hu; rcases hu with rfl | rfl | rfl <;> rfl) (by omega) (by unfold maxLen; omega) (by omega) (by simp; omega) _ rfl ?_; intro g2 cap w2 hown2 hgrow hat hlt2)
                go_roundw
                case rel =>
                  have hr := Ho.out.lt
                  refine ⟨ka + 1, some ⟨g2, 0, none⟩, cap, hlt, by go_num, by rw [HM.out]; simp, ?_, ?_⟩
                  · rw [HM.out, ← rowW_snoc]
                    simpa using hown2
                  · exact ((below_drewN HB.out _).alloc HB.out.size _).grown hgrow (by simp; omega) (fun j hj => (hr j hj).1)
                case measure => simp [intOf]; omega
              | false =>
                rw [if_neg (by rw [hne]; decide), List.append_nil] at M
                have HM := hide M
                clear M
                go_wp2
                go_quiet (fail)
                go_wp2
                go_roundw
                case rel => exact ⟨ka + 1, Aa', ca', hlt, by go_num, by rw [HM.out], by rw [HM.out]; exact Ho.out, below_drewN HB.out _⟩
                case measure => simp [intOf]; omega
            · obtain rfl : ka = L.length := by omega
              rw [List.take_length] at *
              have HR7 := hide (SlotRow.of_own hown)
              have HM7 := hide (HM6.out.below hB)
              have HB7 := hide (HB6.out.trans (hB.mono (Nat.le_trans (Nat.le_of_eq HBX.out) (Nat.le_of_lt hbx'))))
              have z7 := (hB.cell (p := ⟨bx, 1, none⟩) hbx').trans z1'
              have hbx7 : bx < wr.heap.size := Nat.lt_of_lt_of_le hbx' hB.size
              have hKa : (keepP p L).length ≤ 256 := Nat.le_trans (List.length_filter_le _ _) hL256
              clear hown hB HM6 HR6 HB6 z1' hbx'
              generalize wr = w7 at *
              go_wp2
              go_loopw [16, 18] (fun v i wr => ∃ (k : Nat) (A' : Option Addr) (c' : Nat), k ≤ L'.length ∧ i = .int .i64 k ∧ v = .slice A' (keepP p (L'.take k)).length c' ∧ wr.ownsRow w7.heap.size 38 3 (.slice A' (keepP p (L'.take k)).length c') (keepP p (L'.take k)).length (rowW (keepP p (L'.take k))) ∧ Below w7.heap.size w7 wr) (fun _ i _ => L'.length - (intOf i).toNat)
              case atStart => exact ⟨0, none, 0, Nat.zero_le _, rfl, rfl, World.ownsRow_nil _ _ _ _, Below.refl _ _⟩
              case round =>
                obtain ⟨kb, Ab', cb', hkb, rfl, rfl, hown, hB⟩ := hrel
                by_cases hlt : kb < L'.length
                · obtain ⟨g, rfl, hg, hcs⟩ := HM7.out (by omega)
                  obtain ⟨x, hx⟩ : ∃ x, L'[kb]? = some x := ⟨L'[kb], List.getElem?_eq_getElem hlt⟩
                  obtain ⟨c0, c1, c2⟩ := hcs kb x hx
                  have d0 := (hB.cell (p := ⟨g, kb * 3, none⟩) hg).trans c0
                  have d1 := (hB.cell (p := ⟨g, kb * 3 + 1, none⟩) hg).trans c1
                  have d2 := (hB.cell (p := ⟨g, kb * 3 + 2, none⟩) hg).trans c2
                  have dp := (hB.cell (p := ⟨bx, 1, none⟩) hbx7).trans z7
                  have hsz := hB.size
                  have hkl : (keepP p (L'.take kb)).length ≤ kb := by
                    have := List.length_filter_le (fun x : Win => (x.1 : Int) != p) (L'.take kb)
                    have h2 : (L'.take kb).length ≤ kb := by simp; omega
                    unfold keepP; omega
                  have M := keepP_take p hx
                  obtain ⟨hi, hz0, hz1, hz2⟩ := Hi.out
                  have Hi1 := hide hi
                  have Hi2 := hide hz0
                  have Hi3 := hide hz1
                  have Hi4 := hide hz2
                  have Ho := hide hown
                  have HB := hide hB
                  clear hcs c0 c1 c2 hx hown hB hi hz0 hz1 hz2
                  cases hne : ((x.1 : Int) != p) with
                  | true =>
                    rw [if_pos hne] at M
                    have HM := hide M
                    clear M
                    generalize keepP p (L'.take kb) = K at *
                    go_wp2
                    go_quiet (fail)
                    go_wp2_with (at_builtin; refine wpList_append_lies _ rfl (.tmp 147) (.tmp 152) 35 rfl w7.heap.size 38 i0 (.agg #[.int .i64 0, .int .i64 0, .int .i64 0]) 3 24 Tryd.underlying35 Hi1.out Hi2.out Hi3.out Hi4.out rfl (by decide) (.slice Ab' K.length cb') K.length (rowW K) rfl (World.ownsRow.alloc Ho.out _) ⟨wr.heap.size, 0, none⟩ 1 1 [.int .i64 x.1, .int .i64 x.2.1, .int .i64 x.2.2] rfl rfl (World.news_of_block (B := wr.heap.size) (heap_alloc_new _ _)) (by intro u hu; simp at hu; rcases hu with rfl | rfl | rfl <;> rfl) (by omega) (by unfold maxLen; omega) (by omega) (by simp; omega) _ rfl ?_; intro g2 cap w2 hown2 hgrow hat hlt2)
                    go_roundw
                    case rel =>
                      have hr := Ho.out.lt
                      refine ⟨kb + 1, some ⟨g2, 0, none⟩, cap, hlt, by go_num, by rw [HM.out]; simp, ?_, ?_⟩
                      · rw [HM.out, ← rowW_snoc]
                        simpa using hown2
                      · exact ((below_drewN HB.out _).alloc HB.out.size _).grown hgrow (by simp; omega) (fun j hj => (hr j hj).1)
                    case measure => simp [intOf]; omega
                  | false =>
                    rw [if_neg (by rw [hne]; decide), List.append_nil] at M
                    have HM := hide M
                    clear M
                    go_wp2
                    go_quiet (fail)
                    go_wp2
                    go_roundw
                    case rel => exact ⟨kb + 1, Ab', cb', hlt, by go_num, by rw [HM.out], by rw [HM.out]; exact Ho.out, below_drewN HB.out _⟩
                    case measure => simp [intOf]; omega
                · obtain rfl : kb = L'.length := by omega
                  rw [List.take_length] at *
                  have HR8 := hide (HR7.out.below hB)
                  have HM8 := hide (SlotRow.of_own hown)
                  have HB8 := hide (HB7.out.trans (hB.mono (Nat.le_trans (Nat.le_of_eq HBX.out) (Nat.le_of_lt hbx7))))
                  have hKb : (keepP p L').length ≤ 256 := Nat.le_trans (List.length_filter_le _ _) hM256
                  clear hown hB
                  go_wp2_with fail
                  have hs := Tryd.Same_any Aa' Ab' ca' cb' (keepP p L) (keepP p L') wr HR8.out HM8.out (by omega) (by omega)
                  rw [decide_eq_true Hk.out.symm] at hs
                  refine hs.mono ?_
                  clear hs
                  rintro e w9 ⟨rfl, q9, rfl⟩
                  have HB9 := hide (below_drewN HB8.out q9)
                  clear HB8
                  go_wp2
                  go_ret
                  exact ⟨rfl, HB9.out⟩
        · have hcn : (cd != 0) = true := by simpa using hc0
          obtain rfl : L' = L := hz.resolve_left hc0
          have hs := Tryd.Same_any A A2 c c2 L' L' w5 HR4'.out HR5.out (by omega) (by omega)
          rw [decide_eq_true rfl] at hs
          have Hs := hide hs
          clear hs hz hc0
          go_wp2_with fail
          refine Hs.out.mono ?_
          rintro e w6 ⟨rfl, q6, rfl⟩
          have z1 := (HS5.out.below.cell (p := ⟨bx, 1, none⟩) HXS.out).trans HX.out.2.1
          have hbx : bx < w5.heap.size := Nat.lt_of_lt_of_le HXS.out HS5.out.below.size
          have z1' : (w5.drewN q6).cell? ⟨bx, 1, none⟩ = some (.int .i64 p) := z1
          have hbx' : bx < (w5.drewN q6).heap.size := hbx
          have HR6 := hide (HR4'.out.drewN q6)
          have HM6 := hide (HR5.out.drewN q6)
          have HB6 := hide (HB0.out.trans ((HS5.out.drewN q6).below.mono (Nat.le_trans (Nat.le_of_eq HBX.out) (Nat.le_of_lt HXS.out))))
          clear z1 hbx HS5 HR5 HR4' Hs
          generalize w5.drewN q6 = w6 at *
          go_wp2
          go_loopw [15, 17] (fun v i wr => ∃ (k : Nat) (A' : Option Addr) (c' : Nat), k ≤ L'.length ∧ i = .int .i64 k ∧ v = .slice A' (keepP p (L'.take k)).length c' ∧ wr.ownsRow w6.heap.size 38 3 (.slice A' (keepP p (L'.take k)).length c') (keepP p (L'.take k)).length (rowW (keepP p (L'.take k))) ∧ Below w6.heap.size w6 wr) (fun _ i _ => L'.length - (intOf i).toNat)
          case atStart => exact ⟨0, none, 0, Nat.zero_le _, rfl, rfl, World.ownsRow_nil _ _ _ _, Below.refl _ _⟩
          case round =>
            obtain ⟨ka, Aa', ca', hka, rfl, rfl, hown, hB⟩ := hrel
            by_cases hlt : ka < L'.length
            · obtain ⟨g, rfl, hg, hcs⟩ := HR6.out (by omega)
              obtain ⟨x, hx⟩ : ∃ x, L'[ka]? = some x := ⟨L'[ka], List.getElem?_eq_getElem hlt⟩
              obtain ⟨c0, c1, c2⟩ := hcs ka x hx
              have d0 := (hB.cell (p := ⟨g, ka * 3, none⟩) hg).trans c0
              have d1 := (hB.cell (p := ⟨g, ka * 3 + 1, none⟩) hg).trans c1
              have d2 := (hB.cell (p := ⟨g, ka * 3 + 2, none⟩) hg).trans c2
              have dp := (hB.cell (p := ⟨bx, 1, none⟩) hbx').trans z1'
              have hsz := hB.size
              have hkl : (keepP p (L'.take ka)).length ≤ ka := by
                have := List.length_filter_le (fun x : Win => (x.1 : Int) != p) (L'.take ka)
                have h2 : (L'.take ka).length ≤ ka := by simp; omega
                unfold keepP; omega
              have M := keepP_take p hx
              obtain ⟨hi, hz0, hz1, hz2⟩ := Hi.out
              have Hi1 := hide hi
              have Hi2 := hide hz0
              have Hi3 := hide hz1
              have Hi4 := hide hz2
              have Ho := hide hown
              have HB := hide hB
              clear hcs c0 c1 c2 hx hown hB hi hz0 hz1 hz2
              cases hne : ((x.1 : Int) != p) with
              | true =>
                rw [if_pos hne] at M
                have HM := hide M
                clear M
                generalize keepP p (L'.take ka) = K at *
                go_wp2
                go_quiet (fail)
                go_wp2_with (at_builtin; refine wpList_append_lies _ rfl (.tmp 126) (.tmp 131) 35 rfl w6.heap.size 38 i0 (.agg #[.int .i64 0, .int .i64 0, .int .i64 0]) 3 24 Tryd.underlying35 Hi1.out Hi2.out Hi3.out Hi4.out rfl (by decide) (.slice Aa' K.length ca') K.length (rowW K) rfl (World.ownsRow.alloc Ho.out _) ⟨wr.heap.size, 0, none⟩ 1 1 [.int .i64 x.1, .int .i64 x.2.1, .int .i64 x.2.2] rfl rfl (World.news_of_block (B := wr.heap.size) (heap_alloc_new _ _)) (by intro u hu; simp at hu; rcases hu with rfl | rfl | rfl <;> rfl) (by omega) (by unfold maxLen; omega) (by omega) (by simp; omega) _ rfl ?_; intro g2 cap w2 hown2 hgrow hat hlt2)
                go_roundw
                case rel =>
                  have hr := Ho.out.lt
                  refine ⟨ka + 1, some ⟨g2, 0, none⟩, cap, hlt, by go_num, by rw [HM.out]; simp, ?_, ?_⟩
                  · rw [HM.out, ← rowW_snoc]
                    simpa using hown2
                  · exact ((below_drewN HB.out _).alloc HB.out.size _).grown hgrow (by simp; omega) (fun j hj => (hr j hj).1)
                case measure => simp [intOf]; omega
              | false =>
                rw [if_neg (by rw [hne]; decide), List.append_nil] at M
                have HM := hide M
                clear M
                go_wp2
                go_quiet (fail)
                go_wp2
                go_roundw
                case rel => exact ⟨ka + 1, Aa', ca', hlt, by go_num, by rw [HM.out], by rw [HM.out]; exact Ho.out, below_drewN HB.out _⟩
                case measure => simp [intOf]; omega
            · obtain rfl : ka = L'.length := by omega
              rw [List.take_length] at *
              have HR7 := hide (SlotRow.of_own hown)
              have HM7 := hide (HM6.out.below hB)
              have HB7 := hide (HB6.out.trans (hB.mono (Nat.le_trans (Nat.le_of_eq HBX.out) (Nat.le_of_lt hbx'))))
              have z7 := (hB.cell (p := ⟨bx, 1, none⟩) hbx').trans z1'
              have hbx7 : bx < wr.heap.size := Nat.lt_of_lt_of_le hbx' hB.size
              have hKa : (keepP p L').length ≤ 256 := Nat.le_trans (List.length_filter_le _ _) hL256
              clear hown hB HM6 HR6 HB6 z1' hbx'
              generalize wr = w7 at *
              go_wp2
              go_loopw [16, 18] (fun v i wr => ∃ (k : Nat) (A' : Option Addr) (c' : Nat), k ≤ L'.length ∧ i = .int .i64 k ∧ v = .slice A' (keepP p (L'.take k)).length c' ∧ wr.ownsRow w7.heap.size 38 3 (.slice A' (keepP p (L'.take k)).length c') (keepP p (L'.take k)).length (rowW (keepP p (L'.take k))) ∧ Below w7.heap.size w7 wr) (fun _ i _ => L'.length - (intOf i).toNat)
              case atStart => exact ⟨0, none, 0, Nat.zero_le _, rfl, rfl, World.ownsRow_nil _ _ _ _, Below.refl _ _⟩
              case round =>
                obtain ⟨kb, Ab', cb', hkb, rfl, rfl, hown, hB⟩ := hrel
                by_cases hlt : kb < L'.length
                · obtain ⟨g, rfl, hg, hcs⟩ := HM7.out (by omega)
                  obtain ⟨x, hx⟩ : ∃ x, L'[kb]? = some x := ⟨L'[kb], List.getElem?_eq_getElem hlt⟩
                  obtain ⟨c0, c1, c2⟩ := hcs kb x hx
                  have d0 := (hB.cell (p := ⟨g, kb * 3, none⟩) hg).trans c0
                  have d1 := (hB.cell (p := ⟨g, kb * 3 + 1, none⟩) hg).trans c1
                  have d2 := (hB.cell (p := ⟨g, kb * 3 + 2, none⟩) hg).trans c2
                  have dp := (hB.cell (p := ⟨bx, 1, none⟩) hbx7).trans z7
                  have hsz := hB.size
                  have hkl : (keepP p (L'.take kb)).length ≤ kb := by
                    have := List.length_filter_le (fun x : Win => (x.1 : Int) != p) (L'.take kb)
                    have h2 : (L'.take kb).length ≤ kb := by simp; omega
                    unfold keepP; omega
                  have M := keepP_take p hx
                  obtain ⟨hi, hz0, hz1, hz2⟩ := Hi.out
                  have Hi1 := hide hi
                  have Hi2 := hide hz0
                  have Hi3 := hide hz1
                  have Hi4 := hide hz2
                  have Ho := hide hown
                  have HB := hide hB
                  clear hcs c0 c1 c2 hx hown hB hi hz0 hz1 hz2
                  cases hne : ((x.1 : Int) != p) with
                  | true =>
                    rw [if_pos hne] at M
                    have HM := hide M
                    clear M
                    generalize keepP p (L'.take kb) = K at *
                    go_wp2
                    go_quiet (fail)
                    go_wp2_with (at_builtin; refine wpList_append_lies _ rfl (.tmp 147) (.tmp 152) 35 rfl w7.heap.size 38 i0 (.agg #[.int .i64 0, .int .i64 0, .int .i64 0]) 3 24 Tryd.underlying35 Hi1.out Hi2.out Hi3.out Hi4.out rfl (by decide) (.slice Ab' K.length cb') K.length (rowW K) rfl (World.ownsRow.alloc Ho.out _) ⟨wr.heap.size, 0, none⟩ 1 1 [.int .i64 x.1, .int .i64 x.2.1, .int .i64 x.2.2] rfl rfl (World.news_of_block (B := wr.heap.size) (heap_alloc_new _ _)) (by intro u hu; simp at hu; rcases hu with rfl | rfl | rfl <;> rfl) (by omega) (by unfold maxLen; omega) (by omega) (by simp; omega) _ rfl ?_; intro g2 cap w2 hown2 hgrow hat hlt2)
                    go_roundw
                    case rel =>
                      have hr := Ho.out.lt
                      refine ⟨kb + 1, some ⟨g2, 0, none⟩, cap, hlt, by go_num, by rw [HM.out]; simp, ?_, ?_⟩
                      · rw [HM.out, ← rowW_snoc]
                        simpa using hown2
                      · exact ((below_drewN HB.out _).alloc HB.out.size _).grown hgrow (by simp; omega) (fun j hj => (hr j hj).1)
                    case measure => simp [intOf]; omega
                  | false =>
                    rw [if_neg (by rw [hne]; decide), List.append_nil] at M
                    have HM := hide M
                    clear M
                    go_wp2
                    go_quiet (fail)
                    go_wp2
                    go_roundw
                    case rel => exact ⟨kb + 1, Ab', cb', hlt, by go_num, by rw [HM.out], by rw [HM.out]; exact Ho.out, below_drewN HB.out _⟩
                    case measure => simp [intOf]; omega
                · obtain rfl : kb = L'.length := by omega
                  rw [List.take_length] at *
                  have HR8 := hide (HR7.out.below hB)
                  have HM8 := hide (SlotRow.of_own hown)
                  have HB8 := hide (HB7.out.trans (hB.mono (Nat.le_trans (Nat.le_of_eq HBX.out) (Nat.le_of_lt hbx7))))
                  have hKb : (keepP p L').length ≤ 256 := Nat.le_trans (List.length_filter_le _ _) hM256
                  clear hown hB
                  go_wp2_with fail
                  have hs := Tryd.Same_any Aa' Ab' ca' cb' (keepP p L') (keepP p L') wr HR8.out HM8.out (by omega) (by omega)
                  rw [decide_eq_true rfl] at hs
                  refine hs.mono ?_
                  clear hs
                  rintro e w9 ⟨rfl, q9, rfl⟩
                  have HB9 := hide (below_drewN HB8.out q9)
                  clear HB8
                  go_wp2
                  go_ret
                  exact ⟨rfl, HB9.out⟩
      have n0 : (o0 == 0) = false := by simpa using hd0
      clear hd0
      by_cases hd1 : o0 = 1
      · subst hd1
        have hc := Tryd.Insert_g HS3.out p o3 ho3
        have hq := others_insert hok.out p o3
        generalize insL 40 L p o3 = L' at hc hq
        generalize (insC 40 L p o3).2 = cd at hc hq
        have Hc := hide hc
        have Hk := hide hq.1
        have hz := hq.2
        clear hc hq
        go_wp2_with fail
        refine Hc.out.mono ?_
        rintro e w4 ⟨rfl, hS4, hK4⟩
        have HS4 := hide hS4
        have HR4 := hide (HR3.out.kept hK4 HGA.out)
        clear hS4 hK4 y0 y1 y2 y3 Hc HS3 HR3
        go_wp2_with fail
        refine (Tryd.Slots_g HS4.out).mono ?_
        rintro e w5 ⟨A2, c2, rfl, hR5, hS5, hB5⟩
        have HS5 := hide hS5
        have HR5 := hide hR5
        have HR4' := hide (HR4.out.below hB5)
        have hM256 : L'.length ≤ 256 := by have := hS5.ok.length; omega
        clear hS5 hR5 hB5 HS4 HR4
        by_cases hc0 : cd = 0
        · subst hc0
          have hs := Tryd.Same_any A A2 c c2 L L' w5 HR4'.out HR5.out (by omega) (by omega)
          generalize decide (L = L') = sm at hs
          have Hs := hide hs
          clear hs hz
          go_wp2_with fail
          refine Hs.out.mono ?_
          rintro e w6 ⟨rfl, q6, rfl⟩
          have z1 := (HS5.out.below.cell (p := ⟨bx, 1, none⟩) HXS.out).trans HX.out.2.1
          have hbx : bx < w5.heap.size := Nat.lt_of_lt_of_le HXS.out HS5.out.below.size
          have z1' : (w5.drewN q6).cell? ⟨bx, 1, none⟩ = some (.int .i64 p) := z1
          have hbx' : bx < (w5.drewN q6).heap.size := hbx
          have HR6 := hide (HR4'.out.drewN q6)
          have HM6 := hide (HR5.out.drewN q6)
          have HB6 := hide (HB0.out.trans ((HS5.out.drewN q6).below.mono (Nat.le_trans (Nat.le_of_eq HBX.out) (Nat.le_of_lt HXS.out))))
          clear z1 hbx HS5 HR5 HR4' Hs
          generalize w5.drewN q6 = w6 at *
          go_wp2
          go_loopw [15, 17] (fun v i wr => ∃ (k : Nat) (A' : Option Addr) (c' : Nat), k ≤ L.length ∧ i = .int .i64 k ∧ v = .slice A' (keepP p (L.take k)).length c' ∧ wr.ownsRow w6.heap.size 38 3 (.slice A' (keepP p (L.take k)).length c') (keepP p (L.take k)).length (rowW (keepP p (L.take k))) ∧ Below w6.heap.size w6 wr) (fun _ i _ => L.length - (intOf i).toNat)
          case atStart => exact ⟨0, none, 0, Nat.zero_le _, rfl, rfl, World.ownsRow_nil _ _ _ _, Below.refl _ _⟩
          case round =>
            obtain ⟨ka, Aa', ca', hka, rfl, rfl, hown, hB⟩ := hrel
            by_cases hlt : ka < L.length
            · obtain ⟨g, rfl, hg, hcs⟩ := HR6.out (by omega)
              obtain ⟨x, hx⟩ : ∃ x, L[ka]? = some x := ⟨L[ka], List.getElem?_eq_getElem hlt⟩
              obtain ⟨c0, c1, c2⟩ := hcs ka x hx
              have d0 := (hB.cell (p := ⟨g, ka * 3, none⟩) hg).trans c0
              have d1 := (hB.cell (p := ⟨g, ka * 3 + 1, none⟩) hg).trans c1
              have d2 := (hB.cell (p := ⟨g, ka * 3 + 2, none⟩) hg).trans c2
              have dp := (hB.cell (p := ⟨bx, 1, none⟩) hbx').trans z1'
              have hsz := hB.size
              have hkl : (keepP p (L.take ka)).length ≤ ka := by
                have := List.length_filter_le (fun x : Win => (x.1 : Int) != p) (L.take ka)
                have h2 : (L.take ka).length ≤ ka := by simp; omega
                unfold keepP; omega
              have M := keepP_take p hx
              obtain ⟨hi, hz0, hz1, hz2⟩ := Hi.out
              have Hi1 := hide hi
              have Hi2 := hide hz0
              have Hi3 := hide hz1
              have Hi4 := hide hz2
              have Ho := hide hown
              have HB := hide hB
              clear hcs c0 c1 c2 hx hown hB hi hz0 hz1 hz2
              cases hne : ((x.1 : Int) != p) with
              | true =>
                rw [if_pos hne] at M
                have HM := hide M
                clear M
                generalize keepP p (L.take ka) = K at *
                go_wp2
                go_quiet (fail)
                go_wp2_with (at_builtin; refine wpList_append_lies _ rfl (.tmp 126) (.tmp 131) 35 rfl w6.heap.size 38 i0 (.agg #[.int .i64 0, .int .i64 0, .int .i64 0]) 3 24 Tryd.underlying35 Hi1.out Hi2.out Hi3.out Hi4.out rfl (by decide) (.slice Aa' K.length ca') K.length (rowW K) rfl (World.ownsRow.alloc Ho.out _) ⟨wr.heap.size, 0, none⟩ 1 1 [.int .i64 x.1, .int .i64 x.2.1, .int .i64 x.2.2] rfl rfl (World.news_of_block (B := wr.heap.size) (heap_alloc_new _ _)) (by intro u hu; simp at hu; rcases hu with rfl | rfl | rfl <;> rfl) (by omega) (by unfold maxLen; omega) (by omega) (by simp; omega) _ rfl ?_; intro g2 cap w2 hown2 hgrow hat hlt2)
                go_roundw
                case rel =>
                  have hr := Ho.out.lt
                  refine ⟨ka + 1, some ⟨g2, 0, none⟩, cap, hlt, by go_num, by rw [HM.out]; simp, ?_, ?_⟩
                  · rw [HM.out, ← rowW_snoc]
                    simpa using hown2
                  · exact ((below_drewN HB.out _).alloc HB.out.size _).grown hgrow (by simp; omega) (fun j hj => (hr j hj).1)
                case measure => simp [intOf]; omega
              | false =>
                rw [if_neg (by rw [hne]; decide), List.append_nil] at M
                have HM := hide M
                clear M
                go_wp2
                go_quiet (fail)
                go_wp2
                go_roundw
                case rel => exact ⟨ka + 1, Aa', ca', hlt, by go_num, by rw [HM.out], by rw [HM.out]; exact Ho.out, below_drewN HB.out _⟩
                case measure => simp [intOf]; omega
            · obtain rfl : ka = L.length := by omega
              rw [List.take_length] at *
              have HR7 := hide (SlotRow.of_own hown)
              have HM7 := hide (HM6.out.below hB)
              have HB7 := hide (HB6.out.trans (hB.mono (Nat.le_trans (Nat.le_of_eq HBX.out) (Nat.le_of_lt hbx'))))
              have z7 := (hB.cell (p := ⟨bx, 1, none⟩) hbx').trans z1'
              have hbx7 : bx < wr.heap.size := Nat.lt_of_lt_of_le hbx' hB.size
              have hKa : (keepP p L).length ≤ 256 := Nat.le_trans (List.length_filter_le _ _) hL256
              clear hown hB HM6 HR6 HB6 z1' hbx'
              generalize wr = w7 at *
              go_wp2
              go_loopw [16, 18] (fun v i wr => ∃ (k : Nat) (A' : Option Addr) (c' : Nat), k ≤ L'.length ∧ i = .int .i64 k ∧ v = .slice A' (keepP p (L'.take k)).length c' ∧ wr.ownsRow w7.heap.size 38 3 (.slice A' (keepP p (L'.take k)).length c') (keepP p (L'.take k)).length (rowW (keepP p (L'.take k))) ∧ Below w7.heap.size w7 wr) (fun _ i _ => L'.length - (intOf i).toNat)
              case atStart => exact ⟨0, none, 0, Nat.zero_le _, rfl, rfl, World.ownsRow_nil _ _ _ _, Below.refl _ _⟩
              case round =>
                obtain ⟨kb, Ab', cb', hkb, rfl, rfl, hown, hB⟩ := hrel
                by_cases hlt : kb < L'.length
                · obtain ⟨g, rfl, hg, hcs⟩ := HM7.out (by omega)
                  obtain ⟨x, hx⟩ : ∃ x, L'[kb]? = some x := ⟨L'[kb], List.getElem?_eq_getElem hlt⟩
                  obtain ⟨c0, c1, c2⟩ := hcs kb x hx
                  have d0 := (hB.cell (p := ⟨g, kb * 3, none⟩) hg).trans c0
                  have d1 := (hB.cell (p := ⟨g, kb * 3 + 1, none⟩) hg).trans c1
                  have d2 := (hB.cell (p := ⟨g, kb * 3 + 2, none⟩) hg).trans c2
                  have dp := (hB.cell (p := ⟨bx, 1, none⟩) hbx7).trans z7
                  have hsz := hB.size
                  have hkl : (keepP p (L'.take kb)).length ≤ kb := by
                    have := List.length_filter_le (fun x : Win => (x.1 : Int) != p) (L'.take kb)
                    have h2 : (L'.take kb).length ≤ kb := by simp; omega
                    unfold keepP; omega
                  have M := keepP_take p hx
                  obtain ⟨hi, hz0, hz1, hz2⟩ := Hi.out
                  have Hi1 := hide hi
                  have Hi2 := hide hz0
                  have Hi3 := hide hz1
                  have Hi4 := hide hz2
                  have Ho := hide hown
                  have HB := hide hB
                  clear hcs c0 c1 c2 hx hown hB hi hz0 hz1 hz2
                  cases hne : ((x.1 : Int) != p) with
                  | true =>
                    rw [if_pos hne] at M
                    have HM := hide M
                    clear M
                    generalize keepP p (L'.take kb) = K at *
                    go_wp2
                    go_quiet (fail)
                    go_wp2_with (at_builtin; refine wpList_append_lies _ rfl (.tmp 147) (.tmp 152) 35 rfl w7.heap.size 38 i0 (.agg #[.int .i64 0, .int .i64 0, .int .i64 0]) 3 24 Tryd.underlying35 Hi1.out Hi2.out Hi3.out Hi4.out rfl (by decide) (.slice Ab' K.length cb') K.length (rowW K) rfl (World.ownsRow.alloc Ho.out _) ⟨wr.heap.size, 0, none⟩ 1 1 [.int .i64 x.1, .int .i64 x.2.1, .int .i64 x.2.2] rfl rfl (World.news_of_block (B := wr.heap.size) (heap_alloc_new _ _)) (by intro u hu; simp at hu; rcases hu with rfl | rfl | rfl <;> rfl) (by omega) (by unfold maxLen; omega) (by omega) (by simp; omega) _ rfl ?_; intro g2 cap w2 hown2 hgrow hat hlt2)
                    go_roundw
                    case rel =>
                      have hr := Ho.out.lt
                      refine ⟨kb + 1, some ⟨g2, 0, none⟩, cap, hlt, by go_num, by rw [HM.out]; simp, ?_, ?_⟩
                      · rw [HM.out, ← rowW_snoc]
                        simpa using hown2
                      · exact ((below_drewN HB.out _).alloc HB.out.size _).grown hgrow (by simp; omega) (fun j hj => (hr j hj).1)
                    case measure => simp [intOf]; omega
                  | false =>
                    rw [if_neg (by rw [hne]; decide), List.append_nil] at M
                    have HM := hide M
                    clear M
                    go_wp2
                    go_quiet (fail)
                    go_wp2
                    go_roundw
                    case rel => exact ⟨kb + 1, Ab', cb', hlt, by go_num, by rw [HM.out], by rw [HM.out]; exact Ho.out, below_drewN HB.out _⟩
                    case measure => simp [intOf]; omega
                · obtain rfl : kb = L'.length := by omega
                  rw [List.take_length] at *
                  have HR8 := hide (HR7.out.below hB)
                  have HM8 := hide (SlotRow.of_own hown)
                  have HB8 := hide (HB7.out.trans (hB.mono (Nat.le_trans (Nat.le_of_eq HBX.out) (Nat.le_of_lt hbx7))))
                  have hKb : (keepP p L').length ≤ 256 := Nat.le_trans (List.length_filter_le _ _) hM256
                  clear hown hB
                  go_wp2_with fail
                  have hs := Tryd.Same_any Aa' Ab' ca' cb' (keepP p L) (keepP p L') wr HR8.out HM8.out (by omega) (by omega)
                  rw [decide_eq_true Hk.out.symm] at hs
                  refine hs.mono ?_
                  clear hs
                  rintro e w9 ⟨rfl, q9, rfl⟩
                  have HB9 := hide (below_drewN HB8.out q9)
                  clear HB8
                  go_wp2
                  go_ret
                  exact ⟨rfl, HB9.out⟩
        · have hcn : (cd != 0) = true := by simpa using hc0
          obtain rfl : L' = L := hz.resolve_left hc0
          have hs := Tryd.Same_any A A2 c c2 L' L' w5 HR4'.out HR5.out (by omega) (by omega)
          rw [decide_eq_true rfl] at hs
          have Hs := hide hs
          clear hs hz hc0
          go_wp2_with fail
          refine Hs.out.mono ?_
          rintro e w6 ⟨rfl, q6, rfl⟩
          have z1 := (HS5.out.below.cell (p := ⟨bx, 1, none⟩) HXS.out).trans HX.out.2.1
          have hbx : bx < w5.heap.size := Nat.lt_of_lt_of_le HXS.out HS5.out.below.size
          have z1' : (w5.drewN q6).cell? ⟨bx, 1, none⟩ = some (.int .i64 p) := z1
          have hbx' : bx < (w5.drewN q6).heap.size := hbx
          have HR6 := hide (HR4'.out.drewN q6)
          have HM6 := hide (HR5.out.drewN q6)
          have HB6 := hide (HB0.out.trans ((HS5.out.drewN q6).below.mono (Nat.le_trans (Nat.le_of_eq HBX.out) (Nat.le_of_lt HXS.out))))
          clear z1 hbx HS5 HR5 HR4' Hs
          generalize w5.drewN q6 = w6 at *
          go_wp2
          go_loopw [15, 17] (fun v i wr => ∃ (k : Nat) (A' : Option Addr) (c' : Nat), k ≤ L'.length ∧ i = .int .i64 k ∧ v = .slice A' (keepP p (L'.take k)).length c' ∧ wr.ownsRow w6.heap.size 38 3 (.slice A' (keepP p (L'.take k)).length c') (keepP p (L'.take k)).length (rowW (keepP p (L'.take k))) ∧ Below w6.heap.size w6 wr) (fun _ i _ => L'.length - (intOf i).toNat)
          case atStart => exact ⟨0, none, 0, Nat.zero_le _, rfl, rfl, World.ownsRow_nil _ _ _ _, Below.refl _ _⟩
          case round =>
            obtain ⟨ka, Aa', ca', hka, rfl, rfl, hown, hB⟩ := hrel
            by_cases hlt : ka < L'.length
            · obtain ⟨g, rfl, hg, hcs⟩ := HR6.out (by omega)
              obtain ⟨x, hx⟩ : ∃ x, L'[ka]? = some x := ⟨L'[ka], List.getElem?_eq_getElem hlt⟩
              obtain ⟨c0, c1, c2⟩ := hcs ka x hx
              have d0 := (hB.cell (p := ⟨g, ka * 3, none⟩) hg).trans c0
              have d1 := (hB.cell (p := ⟨g, ka * 3 + 1, none⟩) hg).trans c1
              have d2 := (hB.cell (p := ⟨g, ka * 3 + 2, none⟩) hg).trans c2
              have dp := (hB.cell (p := ⟨bx, 1, none⟩) hbx').trans z1'
              have hsz := hB.size
              have hkl : (keepP p (L'.take ka)).length ≤ ka := by
                have := List.length_filter_le (fun x : Win => (x.1 : Int) != p) (L'.take ka)
                have h2 : (L'.take ka).length ≤ ka := by simp; omega
                unfold keepP; omega
              have M := keepP_take p hx
              obtain ⟨hi, hz0, hz1, hz2⟩ := Hi.out
              have Hi1 := hide hi
              have Hi2 := hide hz0
              have Hi3 := hide hz1
              have Hi4 := hide hz2
              have Ho := hide hown
              have HB := hide hB
              clear hcs c0 c1 c2 hx hown hB hi hz0 hz1 hz2
              cases hne : ((x.1 : Int) != p) with
              | true =>
                rw [if_pos hne] at M
                have HM := hide M
                clear M
                generalize keepP p (L'.take ka) = K at *
                go_wp2
                go_quiet (fail)
                go_wp2_with (at_builtin; refine wpList_append_lies _ rfl (.tmp 126) (.tmp 131) 35 rfl w6.heap.size 38 i0 (.agg #[.int .i64 0, .int .i64 0, .int .i64 0]) 3 24 Tryd.underlying35 Hi1.out Hi2.out Hi3.out Hi4.out rfl (by decide) (.slice Aa' K.length ca') K.length (rowW K) rfl (World.ownsRow.alloc Ho.out _) ⟨wr.heap.size, 0, none⟩ 1 1 [.int .i64 x.1, .int .i64 x.2.1, .int .i64 x.2.2] rfl rfl (World.news_of_block (B := wr.heap.size) (heap_alloc_new _ _)) (by intro u hu; simp at hu; rcases hu with rfl | rfl | rfl <;> rfl) (by omega) (by unfold maxLen; omega) (by omega) (by simp; omega) _ rfl ?_; intro g2 cap w2 hown2 hgrow hat hlt2)
                go_roundw
                case rel =>
                  have hr := Ho.out.lt
                  refine ⟨ka + 1, some ⟨g2, 0, none⟩, cap, hlt, by go_num, by rw [HM.out]; simp, ?_, ?_⟩
                  · rw [HM.out, ← rowW_snoc]
                    simpa using hown2
                  · exact ((below_drewN HB.out _).alloc HB.out.size _).grown hgrow (by simp; omega) (fun j hj => (hr j hj).1)
                case measure => simp [intOf]; omega
              | false =>
                rw [if_neg (by rw [hne]; decide), List.append_nil] at M
                have HM := hide M
                clear M
                go_wp2
                go_quiet (fail)
                go_wp2
                go_roundw
                case rel => exact ⟨ka + 1, Aa', ca', hlt, by go_num, by rw [HM.out], by rw [HM.out]; exact Ho.out, below_drewN HB.out _⟩
                case measure => simp [intOf]; omega
            · obtain rfl : ka = L'.length := by omega
              rw [List.take_length] at *
              have HR7 := hide (SlotRow.of_own hown)
              have HM7 := hide (HM6.out.below hB)
              have HB7 := hide (HB6.out.trans (hB.mono (Nat.le_trans (Nat.le_of_eq HBX.out) (Nat.le_of_lt hbx'))))
              have z7 := (hB.cell (p := ⟨bx, 1, none⟩) hbx').trans z1'
              have hbx7 : bx < wr.heap.size := Nat.lt_of_lt_of_le hbx' hB.size
              have hKa : (keepP p L').length ≤ 256 := Nat.le_trans (List.length_filter_le _ _) hL256
              clear hown hB HM6 HR6 HB6 z1' hbx'
              generalize wr = w7 at *
              go_wp2
              go_loopw [16, 18] (fun v i wr => ∃ (k : Nat) (A' : Option Addr) (c' : Nat), k ≤ L'.length ∧ i = .int .i64 k ∧ v = .slice A' (keepP p (L'.take k)).length c' ∧ wr.ownsRow w7.heap.size 38 3 (.slice A' (keepP p (L'.take k)).length c') (keepP p (L'.take k)).length (rowW (keepP p (L'.take k))) ∧ Below w7.heap.size w7 wr) (fun _ i _ => L'.length - (intOf i).toNat)
              case atStart => exact ⟨0, none, 0, Nat.zero_le _, rfl, rfl, World.ownsRow_nil _ _ _ _, Below.refl _ _⟩
              case round =>
                obtain ⟨kb, Ab', cb', hkb, rfl, rfl, hown, hB⟩ := hrel
                by_cases hlt : kb < L'.length
                · obtain ⟨g, rfl, hg, hcs⟩ := HM7.out (by omega)
                  obtain ⟨x, hx⟩ : ∃ x, L'[kb]? = some x := ⟨L'[kb], List.getElem?_eq_getElem hlt⟩
                  obtain ⟨c0, c1, c2⟩ := hcs kb x hx
                  have d0 := (hB.cell (p := ⟨g, kb * 3, none⟩) hg).trans c0
                  have d1 := (hB.cell (p := ⟨g, kb * 3 + 1, none⟩) hg).trans c1
                  have d2 := (hB.cell (p := ⟨g, kb * 3 + 2, none⟩) hg).trans c2
                  have dp := (hB.cell (p := ⟨bx, 1, none⟩) hbx7).trans z7
                  have hsz := hB.size
                  have hkl : (keepP p (L'.take kb)).length ≤ kb := by
                    have := List.length_filter_le (fun x : Win => (x.1 : Int) != p) (L'.take kb)
                    have h2 : (L'.take kb).length ≤ kb := by simp; omega
                    unfold keepP; omega
                  have M := keepP_take p hx
                  obtain ⟨hi, hz0, hz1, hz2⟩ := Hi.out
                  have Hi1 := hide hi
                  have Hi2 := hide hz0
                  have Hi3 := hide hz1
                  have Hi4 := hide hz2
                  have Ho := hide hown
                  have HB := hide hB
                  clear hcs c0 c1 c2 hx hown hB hi hz0 hz1 hz2
                  cases hne : ((x.1 : Int) != p) with
                  | true =>
                    rw [if_pos hne] at M
                    have HM := hide M
                    clear M
                    generalize keepP p (L'.take kb) = K at *
                    go_wp2
                    go_quiet (fail)
                    go_wp2_with (at_builtin; refine wpList_append_lies _ rfl (.tmp 147) (.tmp 152) 35 rfl w7.heap.size 38 i0 (.agg #[.int .i64 0, .int .i64 0, .int .i64 0]) 3 24 Tryd.underlying35 Hi1.out Hi2.out Hi3.out Hi4.out rfl (by decide) (.slice Ab' K.length cb') K.length (rowW K) rfl (World.ownsRow.alloc Ho.out _) ⟨wr.heap.size, 0, none⟩ 1 1 [.int .i64 x.1, .int .i64 x.2.1, .int .i64 x.2.2] rfl rfl (World.news_of_block (B := wr.heap.size) (heap_alloc_new _ _)) (by intro u hu; simp at hu; rcases hu with rfl | rfl | rfl <;> rfl) (by omega) (by unfold maxLen; omega) (by omega) (by simp; omega) _ rfl ?_; intro g2 cap w2 hown2 hgrow hat hlt2)
                    go_roundw
                    case rel =>
                      have hr := Ho.out.lt
                      refine ⟨kb + 1, some ⟨g2, 0, none⟩, cap, hlt, by go_num, by rw [HM.out]; simp, ?_, ?_⟩
                      · rw [HM.out, ← rowW_snoc]
                        simpa using hown2
                      · exact ((below_drewN HB.out _).alloc HB.out.size _).grown hgrow (by simp; omega) (fun j hj => (hr j hj).1)
                    case measure => simp [intOf]; omega
                  | false =>
                    rw [if_neg (by rw [hne]; decide), List.append_nil] at M
                    have HM := hide M
                    clear M
                    go_wp2
                    go_quiet (fail)
                    go_wp2
                    go_roundw
                    case rel => exact ⟨kb + 1, Ab', cb', hlt, by go_num, by rw [HM.out], by rw [HM.out]; exact Ho.out, below_drewN HB.out _⟩
                    case measure => simp [intOf]; omega
                · obtain rfl : kb = L'.length := by omega
                  rw [List.take_length] at *
                  have HR8 := hide (HR7.out.below hB)
                  have HM8 := hide (SlotRow.of_own hown)
                  have HB8 := hide (HB7.out.trans (hB.mono (Nat.le_trans (Nat.le_of_eq HBX.out) (Nat.le_of_lt hbx7))))
                  have hKb : (keepP p L').length ≤ 256 := Nat.le_trans (List.length_filter_le _ _) hM256
                  clear hown hB
                  go_wp2_with fail
                  have hs := Tryd.Same_any Aa' Ab' ca' cb' (keepP p L') (keepP p L') wr HR8.out HM8.out (by omega) (by omega)
                  rw [decide_eq_true rfl] at hs
                  refine hs.mono ?_
                  clear hs
                  rintro e w9 ⟨rfl, q9, rfl⟩
                  have HB9 := hide (below_drewN HB8.out q9)
                  clear HB8
                  go_wp2
                  go_ret
                  exact ⟨rfl, HB9.out⟩
      have n1 : (o0 == 1) = false := by simpa using hd1
      clear hd1
      by_cases hd2 : o0 = 2
      · subst hd2
        have hc := Tryd.Place_g HS3.out p o2 o3
        have hq := others_place hok.out p o2 o3
        generalize placeL 40 L p o2 o3 = L' at hc hq
        generalize placeC 40 L p o2 o3 = cd at hc hq
        have Hc := hide hc
        have Hk := hide hq.1
        have hz := hq.2
        clear hc hq
        go_wp2_with fail
        refine Hc.out.mono ?_
        rintro e w4 ⟨rfl, hS4, hK4⟩
        have HS4 := hide hS4
        have HR4 := hide (HR3.out.kept hK4 HGA.out)
        clear hS4 hK4 y0 y1 y2 y3 Hc HS3 HR3
        go_wp2_with fail
        refine (Tryd.Slots_g HS4.out).mono ?_
        rintro e w5 ⟨A2, c2, rfl, hR5, hS5, hB5⟩
        have HS5 := hide hS5
        have HR5 := hide hR5
        have HR4' := hide (HR4.out.below hB5)
        have hM256 : L'.length ≤ 256 := by have := hS5.ok.length; omega
        clear hS5 hR5 hB5 HS4 HR4
        by_cases hc0 : cd = 0
        · subst hc0
          have hs := Tryd.Same_any A A2 c c2 L L' w5 HR4'.out HR5.out (by omega) (by omega)
          generalize decide (L = L') = sm at hs
          have Hs := hide hs
          clear hs hz
          go_wp2_with fail
          refine Hs.out.mono ?_
          rintro e w6 ⟨rfl, q6, rfl⟩
          have z1 := (HS5.out.below.cell (p := ⟨bx, 1, none⟩) HXS.out).trans HX.out.2.1
          have hbx : bx < w5.heap.size := Nat.lt_of_lt_of_le HXS.out HS5.out.below.size
          have z1' : (w5.drewN q6).cell? ⟨bx, 1, none⟩ = some (.int .i64 p) := z1
          have hbx' : bx < (w5.drewN q6).heap.size := hbx
          have HR6 := hide (HR4'.out.drewN q6)
          have HM6 := hide (HR5.out.drewN q6)
          have HB6 := hide (HB0.out.trans ((HS5.out.drewN q6).below.mono (Nat.le_trans (Nat.le_of_eq HBX.out) (Nat.le_of_lt HXS.out))))
          clear z1 hbx HS5 HR5 HR4' Hs
          generalize w5.drewN q6 = w6 at *
          go_wp2
          go_loopw [15, 17] (fun v i wr => ∃ (k : Nat) (A' : Option Addr) (c' : Nat), k ≤ L.length ∧ i = .int .i64 k ∧ v = .slice A' (keepP p (L.take k)).length c' ∧ wr.ownsRow w6.heap.size 38 3 (.slice A' (keepP p (L.take k)).length c') (keepP p (L.take k)).length (rowW (keepP p (L.take k))) ∧ Below w6.heap.size w6 wr) (fun _ i _ => L.length - (intOf i).toNat)
          case atStart => exact ⟨0, none, 0, Nat.zero_le _, rfl, rfl, World.ownsRow_nil _ _ _ _, Below.refl _ _⟩
          case round =>
            obtain ⟨ka, Aa', ca', hka, rfl, rfl, hown, hB⟩ := hrel
            by_cases hlt : ka < L.length
            · obtain ⟨g, rfl, hg, hcs⟩ := HR6.out (by omega)
              obtain ⟨x, hx⟩ : ∃ x, L[ka]? = some x := ⟨L[ka], List.getElem?_eq_getElem hlt⟩
              obtain ⟨c0, c1, c2⟩ := hcs ka x hx
              have d0 := (hB.cell (p := ⟨g, ka * 3, none⟩) hg).trans c0
              have d1 := (hB.cell (p := ⟨g, ka * 3 + 1, none⟩) hg).trans c1
              have d2 := (hB.cell (p := ⟨g, ka * 3 + 2, none⟩) hg).trans c2
              have dp := (hB.cell (p := ⟨bx, 1, none⟩) hbx').trans z1'
              have hsz := hB.size
              have hkl : (keepP p (L.take ka)).length ≤ ka := by
                have := List.length_filter_le (fun x : Win => (x.1 : Int) != p) (L.take ka)
                have h2 : (L.take ka).length ≤ ka := by simp; omega
                unfold keepP; omega
              have M := keepP_take p hx
              obtain ⟨hi, hz0, hz1, hz2⟩ := Hi.out
              have Hi1 := hide hi
              have Hi2 := hide hz0
              have Hi3 := hide hz1
              have Hi4 := hide hz2
              have Ho := hide hown
              have HB := hide hB
              clear hcs c0 c1 c2 hx hown hB hi hz0 hz1 hz2
              cases hne : ((x.1 : Int) != p) with
              | true =>
                rw [if_pos hne] at M
                have HM := hide M
                clear M
                generalize keepP p (L.take ka) = K at *
                go_wp2
                go_quiet (fail)
                go_wp2_with (at_builtin; refine wpList_append_lies _ rfl (.tmp 126) (.tmp 131) 35 rfl w6.heap.size 38 i0 (.agg #[.int .i64 0, .int .i64 0, .int .i64 0]) 3 24 Tryd.underlying35 Hi1.out Hi2.out Hi3.out Hi4.out rfl (by decide) (.slice Aa' K.length ca') K.length (rowW K) rfl (World.ownsRow.alloc Ho.out _) ⟨wr.heap.size, 0, none⟩ 1 1 [.int .i64 x.1, .int .i64 x.2.1, .int .i64 x.2.2] rfl rfl (World.news_of_block (B := wr.heap.size) (heap_alloc_new _ _)) (by intro u hu; simp at hu; rcases hu with rfl | rfl | rfl <;> rfl) (by omega) (by unfold maxLen; omega) (by omega) (by simp; omega) _ rfl ?_; intro g2 cap w2 hown2 hgrow hat hlt2)
                go_roundw
                case rel =>
                  have hr := Ho.out.lt
                  refine ⟨ka + 1, some ⟨g2, 0, none⟩, cap, hlt, by go_num, by rw [HM.out]; simp, ?_, ?_⟩
                  · rw [HM.out, ← rowW_snoc]
                    simpa using hown2
                  · exact ((below_drewN HB.out _).alloc HB.out.size _).grown hgrow (by simp; omega) (fun j hj => (hr j hj).1)
                case measure => simp [intOf]; omega
              | false =>
                rw [if_neg (by rw [hne]; decide), List.append_nil] at M
                have HM := hide M
                clear M
                go_wp2
                go_quiet (fail)
                go_wp2
                go_roundw
                case rel => exact ⟨ka + 1, Aa', ca', hlt, by go_num, by rw [HM.out], by rw [HM.out]; exact Ho.out, below_drewN HB.out _⟩
                case measure => simp [intOf]; omega
            · obtain rfl : ka = L.length := by omega
              rw [List.take_length] at *
              have HR7 := hide (SlotRow.of_own hown)
              have HM7 := hide (HM6.out.below hB)
              have HB7 := hide (HB6.out.trans (hB.mono (Nat.le_trans (Nat.le_of_eq HBX.out) (Nat.le_of_lt hbx'))))
              have z7 := (hB.cell (p := ⟨bx, 1, none⟩) hbx').trans z1'
              have hbx7 : bx < wr.heap.size := Nat.lt_of_lt_of_le hbx' hB.size
              have hKa : (keepP p L).length ≤ 256 := Nat.le_trans (List.length_filter_le _ _) hL256
              clear hown hB HM6 HR6 HB6 z1' hbx'
              generalize wr = w7 at *
              go_wp2
              go_loopw [16, 18] (fun v i wr => ∃ (k : Nat) (A' : Option Addr) (c' : Nat), k ≤ L'.length ∧ i = .int .i64 k ∧ v = .slice A' (keepP p (L'.take k)).length c' ∧ wr.ownsRow w7.heap.size 38 3 (.slice A' (keepP p (L'.take k)).length c') (keepP p (L'.take k)).length (rowW (keepP p (L'.take k))) ∧ Below w7.heap.size w7 wr) (fun _ i _ => L'.length - (intOf i).toNat)
              case atStart => exact ⟨0, none, 0, Nat.zero_le _, rfl, rfl, World.ownsRow_nil _ _ _ _, Below.refl _ _⟩
              case round =>
                obtain ⟨kb, Ab', cb', hkb, rfl, rfl, hown, hB⟩ := hrel
                by_cases hlt : kb < L'.length
                · obtain ⟨g, rfl, hg, hcs⟩ := HM7.out (by omega)
                  obtain ⟨x, hx⟩ : ∃ x, L'[kb]? = some x := ⟨L'[kb], List.getElem?_eq_getElem hlt⟩
                  obtain ⟨c0, c1, c2⟩ := hcs kb x hx
                  have d0 := (hB.cell (p := ⟨g, kb * 3, none⟩) hg).trans c0
                  have d1 := (hB.cell (p := ⟨g, kb * 3 + 1, none⟩) hg).trans c1
                  have d2 := (hB.cell (p := ⟨g, kb * 3 + 2, none⟩) hg).trans c2
                  have dp := (hB.cell (p := ⟨bx, 1, none⟩) hbx7).trans z7
                  have hsz := hB.size
                  have hkl : (keepP p (L'.take kb)).length ≤ kb := by
                    have := List.length_filter_le (fun x : Win => (x.1 : Int) != p) (L'.take kb)
                    have h2 : (L'.take kb).length ≤ kb := by simp; omega
                    unfold keepP; omega
                  have M := keepP_take p hx
                  obtain ⟨hi, hz0, hz1, hz2⟩ := Hi.out
                  have Hi1 := hide hi
                  have Hi2 := hide hz0
                  have Hi3 := hide hz1
                  have Hi4 := hide hz2
                  have Ho := hide hown
                  have HB := hide hB
                  clear hcs c0 c1 c2 hx hown hB hi hz0 hz1 hz2
                  cases hne : ((x.1 : Int) != p) with
                  | true =>
                    rw [if_pos hne] at M
                    have HM := hide M
                    clear M
                    generalize keepP p (L'.take kb) = K at *
                    go_wp2
                    go_quiet (fail)
                    go_wp2_with (at_builtin; refine wpList_append_lies _ rfl (.tmp 147) (.tmp 152) 35 rfl w7.heap.size 38 i0 (.agg #[.int .i64 0, .int .i64 0, .int .i64 0]) 3 24 Tryd.underlying35 Hi1.out Hi2.out Hi3.out Hi4.out rfl (by decide) (.slice Ab' K.length cb') K.length (rowW K) rfl (World.ownsRow.alloc Ho.out _) ⟨wr.heap.size, 0, none⟩ 1 1 [.int .i64 x.1, .int .i64 x.2.1, .int .i64 x.2.2] rfl rfl (World.news_of_block (B := wr.heap.size) (heap_alloc_new _ _)) (by intro u hu; simp at hu; rcases hu with rfl | rfl | rfl <;> rfl) (by omega) (by unfold maxLen; omega) (by omega) (by simp; omega) _ rfl ?_; intro g2 cap w2 hown2 hgrow hat hlt2)
                    go_roundw
                    case rel =>
                      have hr := Ho.out.lt
                      refine ⟨kb + 1, some ⟨g2, 0, none⟩, cap, hlt, by go_num, by rw [HM.out]; simp, ?_, ?_⟩
                      · rw [HM.out, ← rowW_snoc]
                        simpa using hown2
                      · exact ((below_drewN HB.out _).alloc HB.out.size _).grown hgrow (by simp; omega) (fun j hj => (hr j hj).1)
                    case measure => simp [intOf]; omega
                  | false =>
                    rw [if_neg (by rw [hne]; decide), List.append_nil] at M
                    have HM := hide M
                    clear M
                    go_wp2
                    go_quiet (fail)
                    go_wp2
                    go_roundw
                    case rel => exact ⟨kb + 1, Ab', cb', hlt, by go_num, by rw [HM.out], by rw [HM.out]; exact Ho.out, below_drewN HB.out _⟩
                    case measure => simp [intOf]; omega
                · obtain rfl : kb = L'.length := by omega
                  rw [List.take_length] at *
                  have HR8 := hide (HR7.out.below hB)
                  have HM8 := hide (SlotRow.of_own hown)
                  have HB8 := hide (HB7.out.trans (hB.mono (Nat.le_trans (Nat.le_of_eq HBX.out) (Nat.le_of_lt hbx7))))
                  have hKb : (keepP p L').length ≤ 256 := Nat.le_trans (List.length_filter_le _ _) hM256
                  clear hown hB
                  go_wp2_with fail
                  have hs := Tryd.Same_any Aa' Ab' ca' cb' (keepP p L) (keepP p L') wr HR8.out HM8.out (by omega) (by omega)
                  rw [decide_eq_true Hk.out.symm] at hs
                  refine hs.mono ?_
                  clear hs
                  rintro e w9 ⟨rfl, q9, rfl⟩
                  have HB9 := hide (below_drewN HB8.out q9)
                  clear HB8
                  go_wp2
                  go_ret
                  exact ⟨rfl, HB9.out⟩
        · have hcn : (cd != 0) = true := by simpa using hc0
          obtain rfl : L' = L := hz.resolve_left hc0
          have hs := Tryd.Same_any A A2 c c2 L' L' w5 HR4'.out HR5.out (by omega) (by omega)
          rw [decide_eq_true rfl] at hs
          have Hs := hide hs
          clear hs hz hc0
          go_wp2_with fail
          refine Hs.out.mono ?_
          rintro e w6 ⟨rfl, q6, rfl⟩
          have z1 := (HS5.out.below.cell (p := ⟨bx, 1, none⟩) HXS.out).trans HX.out.2.1
          have hbx : bx < w5.heap.size := Nat.lt_of_lt_of_le HXS.out HS5.out.below.size
          have z1' : (w5.drewN q6).cell? ⟨bx, 1, none⟩ = some (.int .i64 p) := z1
          have hbx' : bx < (w5.drewN q6).heap.size := hbx
          have HR6 := hide (HR4'.out.drewN q6)
          have HM6 := hide (HR5.out.drewN q6)
          have HB6 := hide (HB0.out.trans ((HS5.out.drewN q6).below.mono (Nat.le_trans (Nat.le_of_eq HBX.out) (Nat.le_of_lt HXS.out))))
          clear z1 hbx HS5 HR5 HR4' Hs
          generalize w5.drewN q6 = w6 at *
          go_wp2
          go_loopw [15, 17] (fun v i wr => ∃ (k : Nat) (A' : Option Addr) (c' : Nat), k ≤ L'.length ∧ i = .int .i64 k ∧ v = .slice A' (keepP p (L'.take k)).length c' ∧ wr.ownsRow w6.heap.size 38 3 (.slice A' (keepP p (L'.take k)).length c') (keepP p (L'.take k)).length (rowW (keepP p (L'.take k))) ∧ Below w6.heap.size w6 wr) (fun _ i _ => L'.length - (intOf i).toNat)
          case atStart => exact ⟨0, none, 0, Nat.zero_le _, rfl, rfl, World.ownsRow_nil _ _ _ _, Below.refl _ _⟩
          case round =>
            obtain ⟨ka, Aa', ca', hka, rfl, rfl, hown, hB⟩ := hrel
            by_cases hlt : ka < L'.length
            · obtain ⟨g, rfl, hg, hcs⟩ := HR6.out (by omega)
              obtain ⟨x, hx⟩ : ∃ x, L'[ka]? = some x := ⟨L'[ka], List.getElem?_eq_getElem hlt⟩
              obtain ⟨c0, c1, c2⟩ := hcs ka x hx
              have d0 := (hB.cell (p := ⟨g, ka * 3, none⟩) hg).trans c0
              have d1 := (hB.cell (p := ⟨g, ka * 3 + 1, none⟩) hg).trans c1
              have d2 := (hB.cell (p := ⟨g, ka * 3 + 2, none⟩) hg).trans c2
              have dp := (hB.cell (p := ⟨bx, 1, none⟩) hbx').trans z1'
              have hsz := hB.size
              have hkl : (keepP p (L'.take ka)).length ≤ ka := by
                have := List.length_filter_le (fun x : Win => (x.1 : Int) != p) (L'.take ka)
                have h2 : (L'.take ka).length ≤ ka := by simp; omega
                unfold keepP; omega
              have M := keepP_take p hx
              obtain ⟨hi, hz0, hz1, hz2⟩ := Hi.out
              have Hi1 := hide hi
              have Hi2 := hide hz0
              have Hi3 := hide hz1
              have Hi4 := hide hz2
              have Ho := hide hown
              have HB := hide hB
              clear hcs c0 c1 c2 hx hown hB hi hz0 hz1 hz2
              cases hne : ((x.1 : Int) != p) with
              | true =>
                rw [if_pos hne] at M
                have HM := hide M
                clear M
                generalize keepP p (L'.take ka) = K at *
                go_wp2
                go_quiet (fail)
                go_wp2_with (at_builtin; refine wpList_append_lies _ rfl (.tmp 126) (.tmp 131) 35 rfl w6.heap.size 38 i0 (.agg #[.int .i64 0, .int .i64 0, .int .i64 0]) 3 24 Tryd.underlying35 Hi1.out Hi2.out Hi3.out Hi4.out rfl (by decide) (.slice Aa' K.length ca') K.length (rowW K) rfl (World.ownsRow.alloc Ho.out _) ⟨wr.heap.size, 0, none⟩ 1 1 [.int .i64 x.1, .int .i64 x.2.1, .int .i64 x.2.2] rfl rfl (World.news_of_block (B := wr.heap.size) (heap_alloc_new _ _)) (by intro u hu; simp at hu; rcases hu with rfl | rfl | rfl <;> rfl) (by omega) (by unfold maxLen; omega) (by omega) (by simp; omega) _ rfl ?_; intro g2 cap w2 hown2 hgrow hat hlt2)
                go_roundw
                case rel =>
                  have hr := Ho.out.lt
                  refine ⟨ka + 1, some ⟨g2, 0, none⟩, cap, hlt, by go_num, by rw [HM.out]; simp, ?_, ?_⟩
                  · rw [HM.out, ← rowW_snoc]
                    simpa using hown2
                  · exact ((below_drewN HB.out _).alloc HB.out.size _).grown hgrow (by simp; omega) (fun j hj => (hr j hj).1)
                case measure => simp [intOf]; omega
              | false =>
                rw [if_neg (by rw [hne]; decide), List.append_nil] at M
                have HM := hide M
                clear M
                go_wp2
                go_quiet (fail)
                go_wp2
                go_roundw
                case rel => exact ⟨ka + 1, Aa', ca', hlt, by go_num, by rw [HM.out], by rw [HM.out]; exact Ho.out, below_drewN HB.out _⟩
                case measure => simp [intOf]; omega
            · obtain rfl : ka = L'.length := by omega
              rw [List.take_length] at *
              have HR7 := hide (SlotRow.of_own hown)
              have HM7 := hide (HM6.out.below hB)
              have HB7 := hide (HB6.out.trans (hB.mono (Nat.le_trans (Nat.le_of_eq HBX.out) (Nat.le_of_lt hbx'))))
              have z7 := (hB.cell (p := ⟨bx, 1, none⟩) hbx').trans z1'
              have hbx7 : bx < wr.heap.size := Nat.lt_of_lt_of_le hbx' hB.size
              have hKa : (keepP p L').length ≤ 256 := Nat.le_trans (List.length_filter_le _ _) hL256
              clear hown hB HM6 HR6 HB6 z1' hbx'
              generalize wr = w7 at *
              go_wp2
              go_loopw [16, 18] (fun v i wr => ∃ (k : Nat) (A' : Option Addr) (c' : Nat), k ≤ L'.length ∧ i = .int .i64 k ∧ v = .slice A' (keepP p (L'.take k)).length c' ∧ wr.ownsRow w7.heap.size 38 3 (.slice A' (keepP p (L'.take k)).length c') (keepP p (L'.take k)).length (rowW (keepP p (L'.take k))) ∧ Below w7.heap.size w7 wr) (fun _ i _ => L'.length - (intOf i).toNat)
              case atStart => exact ⟨0, none, 0, Nat.zero_le _, rfl, rfl, World.ownsRow_nil _ _ _ _, Below.refl _ _⟩
              case round =>
                obtain ⟨kb, Ab', cb', hkb, rfl, rfl, hown, hB⟩ := hrel
                by_cases hlt : kb < L'.length
                · obtain ⟨g, rfl, hg, hcs⟩ := HM7.out (by omega)
                  obtain ⟨x, hx⟩ : ∃ x, L'[kb]? = some x := ⟨L'[kb], List.getElem?_eq_getElem hlt⟩
                  obtain ⟨c0, c1, c2⟩ := hcs kb x hx
                  have d0 := (hB.cell (p := ⟨g, kb * 3, none⟩) hg).trans c0
                  have d1 := (hB.cell (p := ⟨g, kb * 3 + 1, none⟩) hg).trans c1
                  have d2 := (hB.cell (p := ⟨g, kb * 3 + 2, none⟩) hg).trans c2
                  have dp := (hB.cell (p := ⟨bx, 1, none⟩) hbx7).trans z7
                  have hsz := hB.size
                  have hkl : (keepP p (L'.take kb)).length ≤ kb := by
                    have := List.length_filter_le (fun x : Win => (x.1 : Int) != p) (L'.take kb)
                    have h2 : (L'.take kb).length ≤ kb := by simp; omega
                    unfold keepP; omega
                  have M := keepP_take p hx
                  obtain ⟨hi, hz0, hz1, hz2⟩ := Hi.out
                  have Hi1 := hide hi
                  have Hi2 := hide hz0
                  have Hi3 := hide hz1
                  have Hi4 := hide hz2
                  have Ho := hide hown
                  have HB := hide hB
                  clear hcs c0 c1 c2 hx hown hB hi hz0 hz1 hz2
                  cases hne : ((x.1 : Int) != p) with
                  | true =>
                    rw [if_pos hne] at M
                    have HM := hide M
                    clear M
                    generalize keepP p (L'.take kb) = K at *
                    go_wp2
                    go_quiet (fail)
                    go_wp2_with (at_builtin; refine wpList_append_lies _ rfl (.tmp 147) (.tmp 152) 35 rfl w7.heap.size 38 i0 (.agg #[.int .i64 0, .int .i64 0, .int .i64 0]) 3 24 Tryd.underlying35 Hi1.out Hi2.out Hi3.out Hi4.out rfl (by decide) (.slice Ab' K.length cb') K.length (rowW K) rfl (World.ownsRow.alloc Ho.out _) ⟨wr.heap.size, 0, none⟩ 1 1 [.int .i64 x.1, .int .i64 x.2.1, .int .i64 x.2.2] rfl rfl (World.news_of_block (B := wr.heap.size) (heap_alloc_new _ _)) (by intro u hu; simp at hu; rcases hu with rfl | rfl | rfl <;> rfl) (by omega) (by unfold maxLen; omega) (by omega) (by simp; omega) _ rfl ?_; intro g2 cap w2 hown2 hgrow hat hlt2)
                    go_roundw
                    case rel =>
                      have hr := Ho.out.lt
                      refine ⟨kb + 1, some ⟨g2, 0, none⟩, cap, hlt, by go_num, by rw [HM.out]; simp, ?_, ?_⟩
                      · rw [HM.out, ← rowW_snoc]
                        simpa using hown2
                      · exact ((below_drewN HB.out _).alloc HB.out.size _).grown hgrow (by simp; omega) (fun j hj => (hr j hj).1)
                    case measure => simp [intOf]; omega
                  | false =>
                    rw [if_neg (by rw [hne]; decide), List.append_nil] at M
                    have HM := hide M
                    clear M
                    go_wp2
                    go_quiet (fail)
                    go_wp2
                    go_roundw
                    case rel => exact ⟨kb + 1, Ab', cb', hlt, by go_num, by rw [HM.out], by rw [HM.out]; exact Ho.out, below_drewN HB.out _⟩
                    case measure => simp [intOf]; omega
                · obtain rfl : kb = L'.length := by omega
                  rw [List.take_length] at *
                  have HR8 := hide (HR7.out.below hB)
                  have HM8 := hide (SlotRow.of_own hown)
                  have HB8 := hide (HB7.out.trans (hB.mono (Nat.le_trans (Nat.le_of_eq HBX.out) (Nat.le_of_lt hbx7))))
                  have hKb : (keepP p L').length ≤ 256 := Nat.le_trans (List.length_filter_le _ _) hM256
                  clear hown hB
                  go_wp2_with fail
                  have hs := Tryd.Same_any Aa' Ab' ca' cb' (keepP p L') (keepP p L') wr HR8.out HM8.out (by omega) (by omega)
                  rw [decide_eq_true rfl] at hs
                  refine hs.mono ?_
                  clear hs
                  rintro e w9 ⟨rfl, q9, rfl⟩
                  have HB9 := hide (below_drewN HB8.out q9)
                  clear HB8
                  go_wp2
                  go_ret
                  exact ⟨rfl, HB9.out⟩
      have n2 : (o0 == 2) = false := by simpa using hd2
      clear hd2
      by_cases hd3 : o0 = 3
      · subst hd3
        have hc := Tryd.Place_g HS3.out p o2 o3
        have hq := others_place hok.out p o2 o3
        generalize placeL 40 L p o2 o3 = L' at hc hq
        generalize placeC 40 L p o2 o3 = cd at hc hq
        have Hc := hide hc
        have Hk := hide hq.1
        have hz := hq.2
        clear hc hq
        go_wp2_with fail
        refine Hc.out.mono ?_
        rintro e w4 ⟨rfl, hS4, hK4⟩
        have HS4 := hide hS4
        have HR4 := hide (HR3.out.kept hK4 HGA.out)
        clear hS4 hK4 y0 y1 y2 y3 Hc HS3 HR3
        go_wp2_with fail
        refine (Tryd.Slots_g HS4.out).mono ?_
        rintro e w5 ⟨A2, c2, rfl, hR5, hS5, hB5⟩
        have HS5 := hide hS5
        have HR5 := hide hR5
        have HR4' := hide (HR4.out.below hB5)
        have hM256 : L'.length ≤ 256 := by have := hS5.ok.length; omega
        clear hS5 hR5 hB5 HS4 HR4
        by_cases hc0 : cd = 0
        · subst hc0
          have hs := Tryd.Same_any A A2 c c2 L L' w5 HR4'.out HR5.out (by omega) (by omega)
          generalize decide (L = L') = sm at hs
          have Hs := hide hs
          clear hs hz
          go_wp2_with fail
          refine Hs.out.mono ?_
          rintro e w6 ⟨rfl, q6, rfl⟩
          have z1 := (HS5.out.below.cell (p := ⟨bx, 1, none⟩) HXS.out).trans HX.out.2.1
          have hbx : bx < w5.heap.size := Nat.lt_of_lt_of_le HXS.out HS5.out.below.size
          have z1' : (w5.drewN q6).cell? ⟨bx, 1, none⟩ = some (.int .i64 p) := z1
          have hbx' : bx < (w5.drewN q6).heap.size := hbx
          have HR6 := hide (HR4'.out.drewN q6)
          have HM6 := hide (HR5.out.drewN q6)
          have HB6 := hide (HB0.out.trans ((HS5.out.drewN q6).below.mono (Nat.le_trans (Nat.le_of_eq HBX.out) (Nat.le_of_lt HXS.out))))
          clear z1 hbx HS5 HR5 HR4' Hs
          generalize w5.drewN q6 = w6 at *
          go_wp2
          go_loopw [15, 17] (fun v i wr => ∃ (k : Nat) (A' : Option Addr) (c' : Nat), k ≤ L.length ∧ i = .int .i64 k ∧ v = .slice A' (keepP p (L.take k)).length c' ∧ wr.ownsRow w6.heap.size 38 3 (.slice A' (keepP p (L.take k)).length c') (keepP p (L.take k)).length (rowW (keepP p (L.take k))) ∧ Below w6.heap.size w6 wr) (fun _ i _ => L.length - (intOf i).toNat)
          case atStart => exact ⟨0, none, 0, Nat.zero_le _, rfl, rfl, World.ownsRow_nil _ _ _ _, Below.refl _ _⟩
          case round =>
            obtain ⟨ka, Aa', ca', hka, rfl, rfl, hown, hB⟩ := hrel
            by_cases hlt : ka < L.length
            · obtain ⟨g, rfl, hg, hcs⟩ := HR6.out (by omega)
              obtain ⟨x, hx⟩ : ∃ x, L[ka]? = some x := ⟨L[ka], List.getElem?_eq_getElem hlt⟩
              obtain ⟨c0, c1, c2⟩ := hcs ka x hx
              have d0 := (hB.cell (p := ⟨g, ka * 3, none⟩) hg).trans c0
              have d1 := (hB.cell (p := ⟨g, ka * 3 + 1, none⟩) hg).trans c1
              have d2 := (hB.cell (p := ⟨g, ka * 3 + 2, none⟩) hg).trans c2
              have dp := (hB.cell (p := ⟨bx, 1, none⟩) hbx').trans z1'
              have hsz := hB.size
              have hkl : (keepP p (L.take ka)).length ≤ ka := by
                have := List.length_filter_le (fun x : Win => (x.1 : Int) != p) (L.take ka)
                have h2 : (L.take ka).length ≤ ka := by simp; omega
                unfold keepP; omega
              have M := keepP_take p hx
              obtain ⟨hi, hz0, hz1, hz2⟩ := Hi.out
              have Hi1 := hide hi
              have Hi2 := hide hz0
              have Hi3 := hide hz1
              have Hi4 := hide hz2
              have Ho := hide hown
              have HB := hide hB
              clear hcs c0 c1 c2 hx hown hB hi hz0 hz1 hz2
              cases hne : ((x.1 : Int) != p) with
              | true =>
                rw [if_pos hne] at M
                have HM := hide M
                clear M
                generalize keepP p (L.take ka) = K at *
                go_wp2
                go_quiet (fail)
                go_wp2_with (at_builtin; refine wpList_append_lies _ rfl (.tmp 126) (.tmp 131) 35 rfl w6.heap.size 38 i0 (.agg #[.int .i64 0, .int .i64 0, .int .i64 0]) 3 24 Tryd.underlying35 Hi1.out Hi2.out Hi3.out Hi4.out rfl (by decide) (.slice Aa' K.length ca') K.length (rowW K) rfl (World.ownsRow.alloc Ho.out _) ⟨wr.heap.size, 0, none⟩ 1 1 [.int .i64 x.1, .int .i64 x.2.1, .int .i64 x.2.2] rfl rfl (World.news_of_block (B := wr.heap.size) (heap_alloc_new _ _)) (by intro u hu; simp at hu; rcases hu with rfl | rfl | rfl <;> rfl) (by omega) (by unfold maxLen; omega) (by omega) (by simp; omega) _ rfl ?_; intro g2 cap w2 hown2 hgrow hat hlt2)
                go_roundw
                case rel =>
                  have hr := Ho.out.lt
                  refine ⟨ka + 1, some ⟨g2, 0, none⟩, cap, hlt, by go_num, by rw [HM.out]; simp, ?_, ?_⟩
                  · rw [HM.out, ← rowW_snoc]
                    simpa using hown2
                  · exact ((below_drewN HB.out _).alloc HB.out.size _).grown hgrow (by simp; omega) (fun j hj => (hr j hj).1)
                case measure => simp [intOf]; omega
              | false =>
                rw [if_neg (by rw [hne]; decide), List.append_nil] at M
                have HM := hide M
                clear M
                go_wp2
                go_quiet (fail)
                go_wp2
                go_roundw
                case rel => exact ⟨ka + 1, Aa', ca', hlt, by go_num, by rw [HM.out], by rw [HM.out]; exact Ho.out, below_drewN HB.out _⟩
                case measure => simp [intOf]; omega
            · obtain rfl : ka = L.length := by omega
              rw [List.take_length] at *
              have HR7 := hide (SlotRow.of_own hown)
              have HM7 := hide (HM6.out.below hB)
              have HB7 := hide (HB6.out.trans (hB.mono (Nat.le_trans (Nat.le_of_eq HBX.out) (Nat.le_of_lt hbx'))))
              have z7 := (hB.cell (p := ⟨bx, 1, none⟩) hbx').trans z1'
              have hbx7 : bx < wr.heap.size := Nat.lt_of_lt_of_le hbx' hB.size
              have hKa : (keepP p L).length ≤ 256 := Nat.le_trans (List.length_filter_le _ _) hL256
              clear hown hB HM6 HR6 HB6 z1' hbx'
              generalize wr = w7 at *
              go_wp2
              go_loopw [16, 18] (fun v i wr => ∃ (k : Nat) (A' : Option Addr) (c' : Nat), k ≤ L'.length ∧ i = .int .i64 k ∧ v = .slice A' (keepP p (L'.take k)).length c' ∧ wr.ownsRow w7.heap.size 38 3 (.slice A' (keepP p (L'.take k)).length c') (keepP p (L'.take k)).length (rowW (keepP p (L'.take k))) ∧ Below w7.heap.size w7 wr) (fun _ i _ => L'.length - (intOf i).toNat)
              case atStart => exact ⟨0, none, 0, Nat.zero_le _, rfl, rfl, World.ownsRow_nil _ _ _ _, Below.refl _ _⟩
              case round =>
                obtain ⟨kb, Ab', cb', hkb, rfl, rfl, hown, hB⟩ := hrel
                by_cases hlt : kb < L'.length
                · obtain ⟨g, rfl, hg, hcs⟩ := HM7.out (by omega)
                  obtain ⟨x, hx⟩ : ∃ x, L'[kb]? = some x := ⟨L'[kb], List.getElem?_eq_getElem hlt⟩
                  obtain ⟨c0, c1, c2⟩ := hcs kb x hx
                  have d0 := (hB.cell (p := ⟨g, kb * 3, none⟩) hg).trans c0
                  have d1 := (hB.cell (p := ⟨g, kb * 3 + 1, none⟩) hg).trans c1
                  have d2 := (hB.cell (p := ⟨g, kb * 3 + 2, none⟩) hg).trans c2
                  have dp := (hB.cell (p := ⟨bx, 1, none⟩) hbx7).trans z7
                  have hsz := hB.size
                  have hkl : (keepP p (L'.take kb)).length ≤ kb := by
                    have := List.length_filter_le (fun x : Win => (x.1 : Int) != p) (L'.take kb)
                    have h2 : (L'.take kb).length ≤ kb := by simp; omega
                    unfold keepP; omega
                  have M := keepP_take p hx
                  obtain ⟨hi, hz0, hz1, hz2⟩ := Hi.out
                  have Hi1 := hide hi
                  have Hi2 := hide hz0
                  have Hi3 := hide hz1
                  have Hi4 := hide hz2
                  have Ho := hide hown
                  have HB := hide hB
                  clear hcs c0 c1 c2 hx hown hB hi hz0 hz1 hz2
                  cases hne : ((x.1 : Int) != p) with
                  | true =>
                    rw [if_pos hne] at M
                    have HM := hide M
                    clear M
                    generalize keepP p (L'.take kb) = K at *
                    go_wp2
                    go_quiet (fail)
                    go_wp2_with (at_builtin; refine wpList_append_lies _ rfl (.tmp 147) (.tmp 152) 35 rfl w7.heap.size 38 i0 (.agg #[.int .i64 0, .int .i64 0, .int .i64 0]) 3 24 Tryd.underlying35 Hi1.out Hi2.out Hi3.out Hi4.out rfl (by decide) (.slice Ab' K.length cb') K.length (rowW K) rfl (World.ownsRow.alloc Ho.out _) ⟨wr.heap.size, 0, none⟩ 1 1 [.int .i64 x.1, .int .i64 x.2.1, .int .i64 x.2.2] rfl rfl (World.news_of_block (B := wr.heap.size) (heap_alloc_new _ _)) (by intro u hu; simp at hu; rcases hu with rfl | rfl | rfl <;> rfl) (by omega) (by unfold maxLen; omega) (by omega) (by simp; omega) _ rfl ?_; intro g2 cap w2 hown2 hgrow hat hlt2)
                    go_roundw
                    case rel =>
                      have hr := Ho.out.lt
                      refine ⟨kb + 1, some ⟨g2, 0, none⟩, cap, hlt, by go_num, by rw [HM.out]; simp, ?_, ?_⟩
                      · rw [HM.out, ← rowW_snoc]
                        simpa using hown2
                      · exact ((below_drewN HB.out _).alloc HB.out.size _).grown hgrow (by simp; omega) (fun j hj => (hr j hj).1)
                    case measure => simp [intOf]; omega
                  | false =>
                    rw [if_neg (by rw [hne]; decide), List.append_nil] at M
                    have HM := hide M
                    clear M
                    go_wp2
                    go_quiet (fail)
                    go_wp2
                    go_roundw
                    case rel => exact ⟨kb + 1, Ab', cb', hlt, by go_num, by rw [HM.out], by rw [HM.out]; exact Ho.out, below_drewN HB.out _⟩
                    case measure => simp [intOf]; omega
                · obtain rfl : kb = L'.length := by omega
                  rw [List.take_length] at *
                  have HR8 := hide (HR7.out.below hB)
                  have HM8 := hide (SlotRow.of_own hown)
                  have HB8 := hide (HB7.out.trans (hB.mono (Nat.le_trans (Nat.le_of_eq HBX.out) (Nat.le_of_lt hbx7))))
                  have hKb : (keepP p L').length ≤ 256 := Nat.le_trans (List.length_filter_le _ _) hM256
                  clear hown hB
                  go_wp2_with fail
                  have hs := Tryd.Same_any Aa' Ab' ca' cb' (keepP p L) (keepP p L') wr HR8.out HM8.out (by omega) (by omega)
                  rw [decide_eq_true Hk.out.symm] at hs
                  refine hs.mono ?_
                  clear hs
                  rintro e w9 ⟨rfl, q9, rfl⟩
                  have HB9 := hide (below_drewN HB8.out q9)
                  clear HB8
                  go_wp2
                  go_ret
                  exact ⟨rfl, HB9.out⟩
        · have hcn : (cd != 0) = true := by simpa using hc0
          obtain rfl : L' = L := hz.resolve_left hc0
          have hs := Tryd.Same_any A A2 c c2 L' L' w5 HR4'.out HR5.out (by omega) (by omega)
          rw [decide_eq_true rfl] at hs
          have Hs := hide hs
          clear hs hz hc0
          go_wp2_with fail
          refine Hs.out.mono ?_
          rintro e w6 ⟨rfl, q6, rfl⟩
          have z1 := (HS5.out.below.cell (p := ⟨bx, 1, none⟩) HXS.out).trans HX.out.2.1
          have hbx : bx < w5.heap.size := Nat.lt_of_lt_of_le HXS.out HS5.out.below.size
          have z1' : (w5.drewN q6).cell? ⟨bx, 1, none⟩ = some (.int .i64 p) := z1
          have hbx' : bx < (w5.drewN q6).heap.size := hbx
          have HR6 := hide (HR4'.out.drewN q6)
          have HM6 := hide (HR5.out.drewN q6)
          have HB6 := hide (HB0.out.trans ((HS5.out.drewN q6).below.mono (Nat.le_trans (Nat.le_of_eq HBX.out) (Nat.le_of_lt HXS.out))))
          clear z1 hbx HS5 HR5 HR4' Hs
          generalize w5.drewN q6 = w6 at *
          go_wp2
          go_loopw [15, 17] (fun v i wr => ∃ (k : Nat) (A' : Option Addr) (c' : Nat), k ≤ L'.length ∧ i = .int .i64 k ∧ v = .slice A' (keepP p (L'.take k)).length c' ∧ wr.ownsRow w6.heap.size 38 3 (.slice A' (keepP p (L'.take k)).length c') (keepP p (L'.take k)).length (rowW (keepP p (L'.take k))) ∧ Below w6.heap.size w6 wr) (fun _ i _ => L'.length - (intOf i).toNat)
          case atStart => exact ⟨0, none, 0, Nat.zero_le _, rfl, rfl, World.ownsRow_nil _ _ _ _, Below.refl _ _⟩
          case round =>
            obtain ⟨ka, Aa', ca', hka, rfl, rfl, hown, hB⟩ := hrel
            by_cases hlt : ka < L'.length
            · obtain ⟨g, rfl, hg, hcs⟩ := HR6.out (by omega)
              obtain ⟨x, hx⟩ : ∃ x, L'[ka]? = some x := ⟨L'[ka], List.getElem?_eq_getElem hlt⟩
              obtain ⟨c0, c1, c2⟩ := hcs ka x hx
              have d0 := (hB.cell (p := ⟨g, ka * 3, none⟩) hg).trans c0
              have d1 := (hB.cell (p := ⟨g, ka * 3 + 1, none⟩) hg).trans c1
              have d2 := (hB.cell (p := ⟨g, ka * 3 + 2, none⟩) hg).trans c2
              have dp := (hB.cell (p := ⟨bx, 1, none⟩) hbx').trans z1'
              have hsz := hB.size
              have hkl : (keepP p (L'.take ka)).length ≤ ka := by
                have := List.length_filter_le (fun x : Win => (x.1 : Int) != p) (L'.take ka)
                have h2 : (L'.take ka).length ≤ ka := by simp; omega
                unfold keepP; omega
              have M := keepP_take p hx
              obtain ⟨hi, hz0, hz1, hz2⟩ := Hi.out
              have Hi1 := hide hi
              have Hi2 := hide hz0
              have Hi3 := hide hz1
              have Hi4 := hide hz2
              have Ho := hide hown
              have HB := hide hB
              clear hcs c0 c1 c2 hx hown hB hi hz0 hz1 hz2
              cases hne : ((x.1 : Int) != p) with
              | true =>
                rw [if_pos hne] at M
                have HM := hide M
                clear M
                generalize keepP p (L'.take ka) = K at *
                go_wp2
                go_quiet (fail)
                go_wp2_with (at_builtin; refine wpList_append_lies _ rfl (.tmp 126) (.tmp 131) 35 rfl w6.heap.size 38 i0 (.agg #[.int .i64 0, .int .i64 0, .int .i64 0]) 3 24 Tryd.underlying35 Hi1.out Hi2.out Hi3.out Hi4.out rfl (by decide) (.slice Aa' K.length ca') K.length (rowW K) rfl (World.ownsRow.alloc Ho.out _) ⟨wr.heap.size, 0, none⟩ 1 1 [.int .i64 x.1, .int .i64 x.2.1, .int .i64 x.2.2] rfl rfl (World.news_of_block (B := wr.heap.size) (heap_alloc_new _ _)) (by intro u hu; simp at hu; rcases hu with rfl | rfl | rfl <;> rfl) (by omega) (by unfold maxLen; omega) (by omega) (by simp; omega) _ rfl ?_; intro g2 cap w2 hown2 hgrow hat hlt2)
                go_roundw
                case rel =>
                  have hr := Ho.out.lt
                  refine ⟨ka + 1, some ⟨g2, 0, none⟩, cap, hlt, by go_num, by rw [HM.out]; simp, ?_, ?_⟩
                  · rw [HM.out, ← rowW_snoc]
                    simpa using hown2
                  · exact ((below_drewN HB.out _).alloc HB.out.size _).grown hgrow (by simp; omega) (fun j hj => (hr j hj).1)
                case measure => simp [intOf]; omega
              | false =>
                rw [if_neg (by rw [hne]; decide), List.append_nil] at M
                have HM := hide M
                clear M
                go_wp2
                go_quiet (fail)
                go_wp2
                go_roundw
                case rel => exact ⟨ka + 1, Aa', ca', hlt, by go_num, by rw [HM.out], by rw [HM.out]; exact Ho.out, below_drewN HB.out _⟩
                case measure => simp [intOf]; omega
            · obtain rfl : ka = L'.length := by omega
              rw [List.take_length] at *
              have HR7 := hide (SlotRow.of_own hown)
              have HM7 := hide (HM6.out.below hB)
              have HB7 := hide (HB6.out.trans (hB.mono (Nat.le_trans (Nat.le_of_eq HBX.out) (Nat.le_of_lt hbx'))))
              have z7 := (hB.cell (p := ⟨bx, 1, none⟩) hbx').trans z1'
              have hbx7 : bx < wr.heap.size := Nat.lt_of_lt_of_le hbx' hB.size
              have hKa : (keepP p L').length ≤ 256 := Nat.le_trans (List.length_filter_le _ _) hL256
              clear hown hB HM6 HR6 HB6 z1' hbx'
              generalize wr = w7 at *
              go_wp2
              go_loopw [16, 18] (fun v i wr => ∃ (k : Nat) (A' : Option Addr) (c' : Nat), k ≤ L'.length ∧ i = .int .i64 k ∧ v = .slice A' (keepP p (L'.take k)).length c' ∧ wr.ownsRow w7.heap.size 38 3 (.slice A' (keepP p (L'.take k)).length c') (keepP p (L'.take k)).length (rowW (keepP p (L'.take k))) ∧ Below w7.heap.size w7 wr) (fun _ i _ => L'.length - (intOf i).toNat)
              case atStart => exact ⟨0, none, 0, Nat.zero_le _, rfl, rfl, World.ownsRow_nil _ _ _ _, Below.refl _ _⟩
              case round =>
                obtain ⟨kb, Ab', cb', hkb, rfl, rfl, hown, hB⟩ := hrel
                by_cases hlt : kb < L'.length
                · obtain ⟨g, rfl, hg, hcs⟩ := HM7.out (by omega)
                  obtain ⟨x, hx⟩ : ∃ x, L'[kb]? = some x := ⟨L'[kb], List.getElem?_eq_getElem hlt⟩
                  obtain ⟨c0, c1, c2⟩ := hcs kb x hx
                  have d0 := (hB.cell (p := ⟨g, kb * 3, none⟩) hg).trans c0
                  have d1 := (hB.cell (p := ⟨g, kb * 3 + 1, none⟩) hg).trans c1
                  have d2 := (hB.cell (p := ⟨g, kb * 3 + 2, none⟩) hg).trans c2
                  have dp := (hB.cell (p := ⟨bx, 1, none⟩) hbx7).trans z7
                  have hsz := hB.size
                  have hkl : (keepP p (L'.take kb)).length ≤ kb := by
                    have := List.length_filter_le (fun x : Win => (x.1 : Int) != p) (L'.take kb)
                    have h2 : (L'.take kb).length ≤ kb := by simp; omega
                    unfold keepP; omega
                  have M := keepP_take p hx
                  obtain ⟨hi, hz0, hz1, hz2⟩ := Hi.out
                  have Hi1 := hide hi
                  have Hi2 := hide hz0
                  have Hi3 := hide hz1
                  have Hi4 := hide hz2
                  have Ho := hide hown
                  have HB := hide hB
                  clear hcs c0 c1 c2 hx hown hB hi hz0 hz1 hz2
                  cases hne : ((x.1 : Int) != p) with
                  | true =>
                    rw [if_pos hne] at M
                    have HM := hide M
                    clear M
                    generalize keepP p (L'.take kb) = K at *
                    go_wp2
                    go_quiet (fail)
                    go_wp2_with (at_builtin; refine wpList_append_lies _ rfl (.tmp 147) (.tmp 152) 35 rfl w7.heap.size 38 i0 (.agg #[.int .i64 0, .int .i64 0, .int .i64 0]) 3 24 Tryd.underlying35 Hi1.out Hi2.out Hi3.out Hi4.out rfl (by decide) (.slice Ab' K.length cb') K.length (rowW K) rfl (World.ownsRow.alloc Ho.out _) ⟨wr.heap.size, 0, none⟩ 1 1 [.int .i64 x.1, .int .i64 x.2.1, .int .i64 x.2.2] rfl rfl (World.news_of_block (B := wr.heap.size) (heap_alloc_new _ _)) (by intro u hu; simp at hu; rcases hu with rfl | rfl | rfl <;> rfl) (by omega) (by unfold maxLen; omega) (by omega) (by simp; omega) _ rfl ?_; intro g2 cap w2 hown2 hgrow hat hlt2)
                    go_roundw
                    case rel =>
                      have hr := Ho.out.lt
                      refine ⟨kb + 1, some ⟨g2, 0, none⟩, cap, hlt, by go_num, by rw [HM.out]; simp, ?_, ?_⟩
                      · rw [HM.out, ← rowW_snoc]
                        simpa using hown2
                      · exact ((below_drewN HB.out _).alloc HB.out.size _).grown hgrow (by simp; omega) (fun j hj => (hr j hj).1)
                    case measure => simp [intOf]; omega
                  | false =>
                    rw [if_neg (by rw [hne]; decide), List.append_nil] at M
                    have HM := hide M
                    clear M
                    go_wp2
                    go_quiet (fail)
                    go_wp2
                    go_roundw
                    case rel => exact ⟨kb + 1, Ab', cb', hlt, by go_num, by rw [HM.out], by rw [HM.out]; exact Ho.out, below_drewN HB.out _⟩
                    case measure => simp [intOf]; omega
                · obtain rfl : kb = L'.length := by omega
                  rw [List.take_length] at *
                  have HR8 := hide (HR7.out.below hB)
                  have HM8 := hide (SlotRow.of_own hown)
                  have HB8 := hide (HB7.out.trans (hB.mono (Nat.le_trans (Nat.le_of_eq HBX.out) (Nat.le_of_lt hbx7))))
                  have hKb : (keepP p L').length ≤ 256 := Nat.le_trans (List.length_filter_le _ _) hM256
                  clear hown hB
                  go_wp2_with fail
                  have hs := Tryd.Same_any Aa' Ab' ca' cb' (keepP p L') (keepP p L') wr HR8.out HM8.out (by omega) (by omega)
                  rw [decide_eq_true rfl] at hs
                  refine hs.mono ?_
                  clear hs
                  rintro e w9 ⟨rfl, q9, rfl⟩
                  have HB9 := hide (below_drewN HB8.out q9)
                  clear HB8
                  go_wp2
                  go_ret
                  exact ⟨rfl, HB9.out⟩
      have n3 : (o0 == 3) = false := by simpa using hd3
      clear hd3
      by_cases hd4 : o0 = 4
      · subst hd4
        have hc := Tryd.Move_g HS3.out p o2 o3
        have hq := others_move hok.out p o2 o3
        generalize moveL 40 L p o2 o3 = L' at hc hq
        generalize moveC 40 L p o2 o3 = cd at hc hq
        have Hc := hide hc
        have Hk := hide hq.1
        have hz := hq.2
        clear hc hq
        go_wp2_with fail
        refine Hc.out.mono ?_
        rintro e w4 ⟨rfl, hS4, hK4⟩
        have HS4 := hide hS4
        have HR4 := hide (HR3.out.kept hK4 HGA.out)
        clear hS4 hK4 y0 y1 y2 y3 Hc HS3 HR3
        go_wp2_with fail
        refine (Tryd.Slots_g HS4.out).mono ?_
        rintro e w5 ⟨A2, c2, rfl, hR5, hS5, hB5⟩
        have HS5 := hide hS5
        have HR5 := hide hR5
        have HR4' := hide (HR4.out.below hB5)
        have hM256 : L'.length ≤ 256 := by have := hS5.ok.length; omega
        clear hS5 hR5 hB5 HS4 HR4
        by_cases hc0 : cd = 0
        · subst hc0
          have hs := Tryd.Same_any A A2 c c2 L L' w5 HR4'.out HR5.out (by omega) (by omega)
          generalize decide (L = L') = sm at hs
          have Hs := hide hs
          clear hs hz
          go_wp2_with fail
          refine Hs.out.mono ?_
          rintro e w6 ⟨rfl, q6, rfl⟩
          have z1 := (HS5.out.below.cell (p := ⟨bx, 1, none⟩) HXS.out).trans HX.out.2.1
          have hbx : bx < w5.heap.size := Nat.lt_of_lt_of_le HXS.out HS5.out.below.size
          have z1' : (w5.drewN q6).cell? ⟨bx, 1, none⟩ = some (.int .i64 p) := z1
          have hbx' : bx < (w5.drewN q6).heap.size := hbx
          have HR6 := hide (HR4'.out.drewN q6)
          have HM6 := hide (HR5.out.drewN q6)
          have HB6 := hide (HB0.out.trans ((HS5.out.drewN q6).below.mono (Nat.le_trans (Nat.le_of_eq HBX.out) (Nat.le_of_lt HXS.out))))
          clear z1 hbx HS5 HR5 HR4' Hs
          generalize w5.drewN q6 = w6 at *
          go_wp2
          go_loopw [15, 17] (fun v i wr => ∃ (k : Nat) (A' : Option Addr) (c' : Nat), k ≤ L.length ∧ i = .int .i64 k ∧ v = .slice A' (keepP p (L.take k)).length c' ∧ wr.ownsRow w6.heap.size 38 3 (.slice A' (keepP p (L.take k)).length c') (keepP p (L.take k)).length (rowW (keepP p (L.take k))) ∧ Below w6.heap.size w6 wr) (fun _ i _ => L.length - (intOf i).toNat)
          case atStart => exact ⟨0, none, 0, Nat.zero_le _, rfl, rfl, World.ownsRow_nil _ _ _ _, Below.refl _ _⟩
          case round =>
            obtain ⟨ka, Aa', ca', hka, rfl, rfl, hown, hB⟩ := hrel
            by_cases hlt : ka < L.length
            · obtain ⟨g, rfl, hg, hcs⟩ := HR6.out (by omega)
              obtain ⟨x, hx⟩ : ∃ x, L[ka]? = some x := ⟨L[ka], List.getElem?_eq_getElem hlt⟩
              obtain ⟨c0, c1, c2⟩ := hcs ka x hx
              have d0 := (hB.cell (p := ⟨g, ka * 3, none⟩) hg).trans c0
              have d1 := (hB.cell (p := ⟨g, ka * 3 + 1, none⟩) hg).trans c1
              have d2 := (hB.cell (p := ⟨g, ka * 3 + 2, none⟩) hg).trans c2
              have dp := (hB.cell (p := ⟨bx, 1, none⟩) hbx').trans z1'
              have hsz := hB.size
              have hkl : (keepP p (L.take ka)).length ≤ ka := by
                have := List.length_filter_le (fun x : Win => (x.1 : Int) != p) (L.take ka)
                have h2 : (L.take ka).length ≤ ka := by simp; omega
                unfold keepP; omega
              have M := keepP_take p hx
              obtain ⟨hi, hz0, hz1, hz2⟩ := Hi.out
              have Hi1 := hide hi
              have Hi2 := hide hz0
              have Hi3 := hide hz1
              have Hi4 := hide hz2
              have Ho := hide hown
              have HB := hide hB
              clear hcs c0 c1 c2 hx hown hB hi hz0 hz1 hz2
              cases hne : ((x.1 : Int) != p) with
              | true =>
                rw [if_pos hne] at M
                have HM := hide M
                clear M
                generalize keepP p (L.take ka) = K at *
                go_wp2
                go_quiet (fail)
                go_wp2_with (at_builtin; refine wpList_append_lies _ rfl (.tmp 126) (.tmp 131) 35 rfl w6.heap.size 38 i0 (.agg #[.int .i64 0, .int .i64 0, .int .i64 0]) 3 24 Tryd.underlying35 Hi1.out Hi2.out Hi3.out Hi4.out rfl (by decide) (.slice Aa' K.length ca') K.length (rowW K) rfl (World.ownsRow.alloc Ho.out _) ⟨wr.heap.size, 0, none⟩ 1 1 [.int .i64 x.1, .int .i64 x.2.1, .int .i64 x.2.2] rfl rfl (World.news_of_block (B := wr.heap.size) (heap_alloc_new _ _)) (by intro u hu; simp at hu; rcases hu with rfl | rfl | rfl <;> rfl) (by omega) (by unfold maxLen; omega) (by omega) (by simp; omega) _ rfl ?_; intro g2 cap w2 hown2 hgrow hat hlt2)
                go_roundw
                case rel =>
                  have hr := Ho.out.lt
                  refine ⟨ka + 1, some ⟨g2, 0, none⟩, cap, hlt, by go_num, by rw [HM.out]; simp, ?_, ?_⟩
                  · rw [HM.out, ← rowW_snoc]
                    simpa using hown2
                  · exact ((below_drewN HB.out _).alloc HB.out.size _).grown hgrow (by simp; omega) (fun j hj => (hr j hj).1)
                case measure => simp [intOf]; omega
              | false =>
                rw [if_neg (by rw [hne]; decide), List.append_nil] at M
                have HM := hide M
                clear M
                go_wp2
                go_quiet (fail)
                go_wp2
                go_roundw
                case rel => exact ⟨ka + 1, Aa', ca', hlt, by go_num, by rw [HM.out], by rw [HM.out]; exact Ho.out, below_drewN HB.out _⟩
                case measure => simp [intOf]; omega
            · obtain rfl : ka = L.length := by omega
              rw [List.take_length] at *
              have HR7 := hide (SlotRow.of_own hown)
              have HM7 := hide (HM6.out.below hB)
              have HB7 := hide (HB6.out.trans (hB.mono (Nat.le_trans (Nat.le_of_eq HBX.out) (Nat.le_of_lt hbx'))))
              have z7 := (hB.cell (p := ⟨bx, 1, none⟩) hbx').trans z1'
              have hbx7 : bx < wr.heap.size := Nat.lt_of_lt_of_le hbx' hB.size
              have hKa : (keepP p L).length ≤ 256 := Nat.le_trans (List.length_filter_le _ _) hL256
              clear hown hB HM6 HR6 HB6 z1' hbx'
              generalize wr = w7 at *
              go_wp2
              go_loopw [16, 18] (fun v i wr => ∃ (k : Nat) (A' : Option Addr) (c' : Nat), k ≤ L'.length ∧ i = .int .i64 k ∧ v = .slice A' (keepP p (L'.take k)).length c' ∧ wr.ownsRow w7.heap.size 38 3 (.slice A' (keepP p (L'.take k)).length c') (keepP p (L'.take k)).length (rowW (keepP p (L'.take k))) ∧ Below w7.heap.size w7 wr) (fun _ i _ => L'.length - (intOf i).toNat)
              case atStart => exact ⟨0, none, 0, Nat.zero_le _, rfl, rfl, World.ownsRow_nil _ _ _ _, Below.refl _ _⟩
              case round =>
                obtain ⟨kb, Ab', cb', hkb, rfl, rfl, hown, hB⟩ := hrel
                by_cases hlt : kb < L'.length
                · obtain ⟨g, rfl, hg, hcs⟩ := HM7.out (by omega)
                  obtain ⟨x, hx⟩ : ∃ x, L'[kb]? = some x := ⟨L'[kb], List.getElem?_eq_getElem hlt⟩
                  obtain ⟨c0, c1, c2⟩ := hcs kb x hx
                  have d0 := (hB.cell (p := ⟨g, kb * 3, none⟩) hg).trans c0
                  have d1 := (hB.cell (p := ⟨g, kb * 3 + 1, none⟩) hg).trans c1
                  have d2 := (hB.cell (p := ⟨g, kb * 3 + 2, none⟩) hg).trans c2
                  have dp := (hB.cell (p := ⟨bx, 1, none⟩) hbx7).trans z7
                  have hsz := hB.size
                  have hkl : (keepP p (L'.take kb)).length ≤ kb := by
                    have := List.length_filter_le (fun x : Win => (x.1 : Int) != p) (L'.take kb)
                    have h2 : (L'.take kb).length ≤ kb := by simp; omega
                    unfold keepP; omega
                  have M := keepP_take p hx
                  obtain ⟨hi, hz0, hz1, hz2⟩ := Hi.out
                  have Hi1 := hide hi
                  have Hi2 := hide hz0
                  have Hi3 := hide hz1
                  have Hi4 := hide hz2
                  have Ho := hide hown
                  have HB := hide hB
                  clear hcs c0 c1 c2 hx hown hB hi hz0 hz1 hz2
                  cases hne : ((x.1 : Int) != p) with
                  | true =>
                    rw [if_pos hne] at M
                    have HM := hide M
                    clear M
                    generalize keepP p (L'.take kb) = K at *
                    go_wp2
                    go_quiet (fail)
                    go_wp2_with (at_builtin; refine wpList_append_lies _ rfl (.tmp 147) (.tmp 152) 35 rfl w7.heap.size 38 i0 (.agg #[.int .i64 0, .int .i64 0, .int .i64 0]) 3 24 Tryd.underlying35 Hi1.out Hi2.out Hi3.out Hi4.out rfl (by decide) (.slice Ab' K.length cb') K.length (rowW K) rfl (World.ownsRow.alloc Ho.out _) ⟨wr.heap.size, 0, none⟩ 1 1 [.int .i64 x.1, .int .i64 x.2.1, .int .i64 x.2.2] rfl rfl (World.news_of_block (B := wr.heap.size) (heap_alloc_new _ _)) (by intro u hu; simp at hu; rcases hu with rfl | rfl | rfl <;> rfl) (by omega) (by unfold maxLen; omega) (by omega) (by simp; omega) _ rfl ?_; intro g2 cap w2 hown2 hgrow hat hlt2)
                    go_roundw
                    case rel =>
                      have hr := Ho.out.lt
                      refine ⟨kb + 1, some ⟨g2, 0, none⟩, cap, hlt, by go_num, by rw [HM.out]; simp, ?_, ?_⟩
                      · rw [HM.out, ← rowW_snoc]
                        simpa using hown2
                      · exact ((below_drewN HB.out _).alloc HB.out.size _).grown hgrow (by simp; omega) (fun j hj => (hr j hj).1)
                    case measure => simp [intOf]; omega
                  | false =>
                    rw [if_neg (by rw [hne]; decide), List.append_nil] at M
                    have HM := hide M
                    clear M
                    go_wp2
                    go_quiet (fail)
                    go_wp2
                    go_roundw
                    case rel => exact ⟨kb + 1, Ab', cb', hlt, by go_num, by rw [HM.out], by rw [HM.out]; exact Ho.out, below_drewN HB.out _⟩
                    case measure => simp [intOf]; omega
                · obtain rfl : kb = L'.length := by omega
                  rw [List.take_length] at *
                  have HR8 := hide (HR7.out.below hB)
                  have HM8 := hide (SlotRow.of_own hown)
                  have HB8 := hide (HB7.out.trans (hB.mono (Nat.le_trans (Nat.le_of_eq HBX.out) (Nat.le_of_lt hbx7))))
                  have hKb : (keepP p L').length ≤ 256 := Nat.le_trans (List.length_filter_le _ _) hM256
                  clear hown hB
                  go_wp2_with fail
                  have hs := Tryd.Same_any Aa' Ab' ca' cb' (keepP p L) (keepP p L') wr HR8.out HM8.out (by omega) (by omega)
                  rw [decide_eq_true Hk.out.symm] at hs
                  refine hs.mono ?_
                  clear hs
                  rintro e w9 ⟨rfl, q9, rfl⟩
                  have HB9 := hide (below_drewN HB8.out q9)
                  clear HB8
                  go_wp2
                  go_ret
                  exact ⟨rfl, HB9.out⟩
        · have hcn : (cd != 0) = true := by simpa using hc0
          obtain rfl : L' = L := hz.resolve_left hc0
          have hs := Tryd.Same_any A A2 c c2 L' L' w5 HR4'.out HR5.out (by omega) (by omega)
          rw [decide_eq_true rfl] at hs
          have Hs := hide hs
          clear hs hz hc0
          go_wp2_with fail
          refine Hs.out.mono ?_
          rintro e w6 ⟨rfl, q6, rfl⟩
          have z1 := (HS5.out.below.cell (p := ⟨bx, 1, none⟩) HXS.out).trans HX.out.2.1
          have hbx : bx < w5.heap.size := Nat.lt_of_lt_of_le HXS.out HS5.out.below.size
          have z1' : (w5.drewN q6).cell? ⟨bx, 1, none⟩ = some (.int .i64 p) := z1
          have hbx' : bx < (w5.drewN q6).heap.size := hbx
          have HR6 := hide (HR4'.out.drewN q6)
          have HM6 := hide (HR5.out.drewN q6)
          have HB6 := hide (HB0.out.trans ((HS5.out.drewN q6).below.mono (Nat.le_trans (Nat.le_of_eq HBX.out) (Nat.le_of_lt HXS.out))))
          clear z1 hbx HS5 HR5 HR4' Hs
          generalize w5.drewN q6 = w6 at *
          go_wp2
          go_loopw [15, 17] (fun v i wr => ∃ (k : Nat) (A' : Option Addr) (c' : Nat), k ≤ L'.length ∧ i = .int .i64 k ∧ v = .slice A' (keepP p (L'.take k)).length c' ∧ wr.ownsRow w6.heap.size 38 3 (.slice A' (keepP p (L'.take k)).length c') (keepP p (L'.take k)).length (rowW (keepP p (L'.take k))) ∧ Below w6.heap.size w6 wr) (fun _ i _ => L'.length - (intOf i).toNat)
          case atStart => exact ⟨0, none, 0, Nat.zero_le _, rfl, rfl, World.ownsRow_nil _ _ _ _, Below.refl _ _⟩
          case round =>
            obtain ⟨ka, Aa', ca', hka, rfl, rfl, hown, hB⟩ := hrel
            by_cases hlt : ka < L'.length
            · obtain ⟨g, rfl, hg, hcs⟩ := HR6.out (by omega)
              obtain ⟨x, hx⟩ : ∃ x, L'[ka]? = some x := ⟨L'[ka], List.getElem?_eq_getElem hlt⟩
              obtain ⟨c0, c1, c2⟩ := hcs ka x hx
              have d0 := (hB.cell (p := ⟨g, ka * 3, none⟩) hg).trans c0
              have d1 := (hB.cell (p := ⟨g, ka * 3 + 1, none⟩) hg).trans c1
              have d2 := (hB.cell (p := ⟨g, ka * 3 + 2, none⟩) hg).trans c2
              have dp := (hB.cell (p := ⟨bx, 1, none⟩) hbx').trans z1'
              have hsz := hB.size
              have hkl : (keepP p (L'.take ka)).length ≤ ka := by
                have := List.length_filter_le (fun x : Win => (x.1 : Int) != p) (L'.take ka)
                have h2 : (L'.take ka).length ≤ ka := by simp; omega
                unfold keepP; omega
              have M := keepP_take p hx
              obtain ⟨hi, hz0, hz1, hz2⟩ := Hi.out
              have Hi1 := hide hi
              have Hi2 := hide hz0
              have Hi3 := hide hz1
              have Hi4 := hide hz2
              have Ho := hide hown
              have HB := hide hB
              clear hcs c0 c1 c2 hx hown hB hi hz0 hz1 hz2
              cases hne : ((x.1 : Int) != p) with
              | true =>
                rw [if_pos hne] at M
                have HM := hide M
                clear M
                generalize keepP p (L'.take ka) = K at *
                go_wp2
                go_quiet (fail)
                go_wp2_with (at_builtin; refine wpList_append_lies _ rfl (.tmp 126) (.tmp 131) 35 rfl w6.heap.size 38 i0 (.agg #[.int .i64 0, .int .i64 0, .int .i64 0]) 3 24 Tryd.underlying35 Hi1.out Hi2.out Hi3.out Hi4.out rfl (by decide) (.slice Aa' K.length ca') K.length (rowW K) rfl (World.ownsRow.alloc Ho.out _) ⟨wr.heap.size, 0, none⟩ 1 1 [.int .i64 x.1, .int .i64 x.2.1, .int .i64 x.2.2] rfl rfl (World.news_of_block (B := wr.heap.size) (heap_alloc_new _ _)) (by intro u hu; simp at hu; rcases hu with rfl | rfl | rfl <;> rfl) (by omega) (by unfold maxLen; omega) (by omega) (by simp; omega) _ rfl ?_; intro g2 cap w2 hown2 hgrow hat hlt2)
                go_roundw
                case rel =>
                  have hr := Ho.out.lt
                  refine ⟨ka + 1, some ⟨g2, 0, none⟩, cap, hlt, by go_num, by rw [HM.out]; simp, ?_, ?_⟩
                  · rw [HM.out, ← rowW_snoc]
                    simpa using hown2
                  · exact ((below_drewN HB.out _).alloc HB.out.size _).grown hgrow (by simp; omega) (fun j hj => (hr j hj).1)
                case measure => simp [intOf]; omega
              | false =>
                rw [if_neg (by rw [hne]; decide), List.append_nil] at M
                have HM := hide M
                clear M
                go_wp2
                go_quiet (fail)
                go_wp2
                go_roundw
                case rel => exact ⟨ka + 1, Aa', ca', hlt, by go_num, by rw [HM.out], by rw [HM.out]; exact Ho.out, below_drewN HB.out _⟩
                case measure => simp [intOf]; omega
            · obtain rfl : ka = L'.length := by omega
              rw [List.take_length] at *
              have HR7 := hide (SlotRow.of_own hown)
              have HM7 := hide (HM6.out.below hB)
              have HB7 := hide (HB6.out.trans (hB.mono (Nat.le_trans (Nat.le_of_eq HBX.out) (Nat.le_of_lt hbx'))))
              have z7 := (hB.cell (p := ⟨bx, 1, none⟩) hbx').trans z1'
              have hbx7 : bx < wr.heap.size := Nat.lt_of_lt_of_le hbx' hB.size
              have hKa : (keepP p L').length ≤ 256 := Nat.le_trans (List.length_filter_le _ _) hL256
              clear hown hB HM6 HR6 HB6 z1' hbx'
              generalize wr = w7 at *
              go_wp2
              go_loopw [16, 18] (fun v i wr => ∃ (k : Nat) (A' : Option Addr) (c' : Nat), k ≤ L'.length ∧ i = .int .i64 k ∧ v = .slice A' (keepP p (L'.take k)).length c' ∧ wr.ownsRow w7.heap.size 38 3 (.slice A' (keepP p (L'.take k)).length c') (keepP p (L'.take k)).length (rowW (keepP p (L'.take k))) ∧ Below w7.heap.size w7 wr) (fun _ i _ => L'.length - (intOf i).toNat)
              case atStart => exact ⟨0, none, 0, Nat.zero_le _, rfl, rfl, World.ownsRow_nil _ _ _ _, Below.refl _ _⟩
              case round =>
                obtain ⟨kb, Ab', cb', hkb, rfl, rfl, hown, hB⟩ := hrel
                by_cases hlt : kb < L'.length
                · obtain ⟨g, rfl, hg, hcs⟩ := HM7.out (by omega)
                  obtain ⟨x, hx⟩ : ∃ x, L'[kb]? = some x := ⟨L'[kb], List.getElem?_eq_getElem hlt⟩
                  obtain ⟨c0, c1, c2⟩ := hcs kb x hx
                  have d0 := (hB.cell (p := ⟨g, kb * 3, none⟩) hg).trans c0
                  have d1 := (hB.cell (p := ⟨g, kb * 3 + 1, none⟩) hg).trans c1
                  have d2 := (hB.cell (p := ⟨g, kb * 3 + 2, none⟩) hg).trans c2
                  have dp := (hB.cell (p := ⟨bx, 1, none⟩) hbx7).trans z7
                  have hsz := hB.size
                  have hkl : (keepP p (L'.take kb)).length ≤ kb := by
                    have := List.length_filter_le (fun x : Win => (x.1 : Int) != p) (L'.take kb)
                    have h2 : (L'.take kb).length ≤ kb := by simp; omega
                    unfold keepP; omega
                  have M := keepP_take p hx
                  obtain ⟨hi, hz0, hz1, hz2⟩ := Hi.out
                  have Hi1 := hide hi
                  have Hi2 := hide hz0
                  have Hi3 := hide hz1
                  have Hi4 := hide hz2
                  have Ho := hide hown
                  have HB := hide hB
                  clear hcs c0 c1 c2 hx hown hB hi hz0 hz1 hz2
                  cases hne : ((x.1 : Int) != p) with
                  | true =>
                    rw [if_pos hne] at M
                    have HM := hide M
                    clear M
                    generalize keepP p (L'.take kb) = K at *
                    go_wp2
                    go_quiet (fail)
                    go_wp2_with (at_builtin; refine wpList_append_lies _ rfl (.tmp 147) (.tmp 152) 35 rfl w7.heap.size 38 i0 (.agg #[.int .i64 0, .int .i64 0, .int .i64 0]) 3 24 Tryd.underlying35 Hi1.out Hi2.out Hi3.out Hi4.out rfl (by decide) (.slice Ab' K.length cb') K.length (rowW K) rfl (World.ownsRow.alloc Ho.out _) ⟨wr.heap.size, 0, none⟩ 1 1 [.int .i64 x.1, .int .i64 x.2.1, .int .i64 x.2.2] rfl rfl (World.news_of_block (B := wr.heap.size) (heap_alloc_new _ _)) (by intro u hu; simp at hu; rcases hu with rfl | rfl | rfl <;> rfl) (by omega) (by unfold maxLen; omega) (by omega) (by simp; omega) _ rfl ?_; intro g2 cap w2 hown2 hgrow hat hlt2)
                    go_roundw
                    case rel =>
                      have hr := Ho.out.lt
                      refine ⟨kb + 1, some ⟨g2, 0, none⟩, cap, hlt, by go_num, by rw [HM.out]; simp, ?_, ?_⟩
                      · rw [HM.out, ← rowW_snoc]
                        simpa using hown2
                      · exact ((below_drewN HB.out _).alloc HB.out.size _).grown hgrow (by simp; omega) (fun j hj => (hr j hj).1)
                    case measure => simp [intOf]; omega
                  | false =>
                    rw [if_neg (by rw [hne]; decide), List.append_nil] at M
                    have HM := hide M
                    clear M
                    go_wp2
                    go_quiet (fail)
                    go_wp2
                    go_roundw
                    case rel => exact ⟨kb + 1, Ab', cb', hlt, by go_num, by rw [HM.out], by rw [HM.out]; exact Ho.out, below_drewN HB.out _⟩
                    case measure => simp [intOf]; omega
                · obtain rfl : kb = L'.length := by omega
                  rw [List.take_length] at *
                  have HR8 := hide (HR7.out.below hB)
                  have HM8 := hide (SlotRow.of_own hown)
                  have HB8 := hide (HB7.out.trans (hB.mono (Nat.le_trans (Nat.le_of_eq HBX.out) (Nat.le_of_lt hbx7))))
                  have hKb : (keepP p L').length ≤ 256 := Nat.le_trans (List.length_filter_le _ _) hM256
                  clear hown hB
                  go_wp2_with fail
                  have hs := Tryd.Same_any Aa' Ab' ca' cb' (keepP p L') (keepP p L') wr HR8.out HM8.out (by omega) (by omega)
                  rw [decide_eq_true rfl] at hs
                  refine hs.mono ?_
                  clear hs
                  rintro e w9 ⟨rfl, q9, rfl⟩
                  have HB9 := hide (below_drewN HB8.out q9)
                  clear HB8
                  go_wp2
                  go_ret
                  exact ⟨rfl, HB9.out⟩
      have n4 : (o0 == 4) = false := by simpa using hd4
      clear hd4
      have hc := Tryd.Remove_g HS3.out p
      obtain ⟨L', hL'⟩ : ∃ L', L' = keepP p L := ⟨_, rfl⟩
      rw [← hL'] at hc
      have hq : keepP p L' = keepP p L := by rw [hL']; exact others_remove p L
      clear hL'
      have Hc := hide hc
      have Hk := hide hq
      clear hc hq
      go_wp2_with fail
      refine Hc.out.mono ?_
      rintro e w4 ⟨rfl, hS4, hK4⟩
      have HS4 := hide hS4
      have HR4 := hide (HR3.out.kept hK4 HGA.out)
      clear hS4 hK4 y0 y1 y2 y3 Hc HS3 HR3
      go_wp2_with fail
      refine (Tryd.Slots_g HS4.out).mono ?_
      rintro e w5 ⟨A2, c2, rfl, hR5, hS5, hB5⟩
      have HS5 := hide hS5
      have HR5 := hide hR5
      have HR4' := hide (HR4.out.below hB5)
      have hM256 : L'.length ≤ 256 := by have := hS5.ok.length; omega
      clear hS5 hR5 hB5 HS4 HR4
      have hs := Tryd.Same_any A A2 c c2 L L' w5 HR4'.out HR5.out (by omega) (by omega)
      generalize decide (L = L') = sm at hs
      have Hs := hide hs
      clear hs
      go_wp2_with fail
      refine Hs.out.mono ?_
      rintro e w6 ⟨rfl, q6, rfl⟩
      have z1 := (HS5.out.below.cell (p := ⟨bx, 1, none⟩) HXS.out).trans HX.out.2.1
      have hbx : bx < w5.heap.size := Nat.lt_of_lt_of_le HXS.out HS5.out.below.size
      have z1' : (w5.drewN q6).cell? ⟨bx, 1, none⟩ = some (.int .i64 p) := z1
      have hbx' : bx < (w5.drewN q6).heap.size := hbx
      have HR6 := hide (HR4'.out.drewN q6)
      have HM6 := hide (HR5.out.drewN q6)
      have HB6 := hide (HB0.out.trans ((HS5.out.drewN q6).below.mono (Nat.le_trans (Nat.le_of_eq HBX.out) (Nat.le_of_lt HXS.out))))
      clear z1 hbx HS5 HR5 HR4' Hs
      generalize w5.drewN q6 = w6 at *
      go_wp2
      go_loopw [15, 17] (fun v i wr => ∃ (k : Nat) (A' : Option Addr) (c' : Nat), k ≤ L.length ∧ i = .int .i64 k ∧ v = .slice A' (keepP p (L.take k)).length c' ∧ wr.ownsRow w6.heap.size 38 3 (.slice A' (keepP p (L.take k)).length c') (keepP p (L.take k)).length (rowW (keepP p (L.take k))) ∧ Below w6.heap.size w6 wr) (fun _ i _ => L.length - (intOf i).toNat)
      case atStart => exact ⟨0, none, 0, Nat.zero_le _, rfl, rfl, World.ownsRow_nil _ _ _ _, Below.refl _ _⟩
      case round =>
        obtain ⟨ka, Aa', ca', hka, rfl, rfl, hown, hB⟩ := hrel
        by_cases hlt : ka < L.length
        · obtain ⟨g, rfl, hg, hcs⟩ := HR6.out (by omega)
          obtain ⟨x, hx⟩ : ∃ x, L[ka]? = some x := ⟨L[ka], List.getElem?_eq_getElem hlt⟩
          obtain ⟨c0, c1, c2⟩ := hcs ka x hx
          have d0 := (hB.cell (p := ⟨g, ka * 3, none⟩) hg).trans c0
          have d1 := (hB.cell (p := ⟨g, ka * 3 + 1, none⟩) hg).trans c1
          have d2 := (hB.cell (p := ⟨g, ka * 3 + 2, none⟩) hg).trans c2
          have dp := (hB.cell (p := ⟨bx, 1, none⟩) hbx').trans z1'
          have hsz := hB.size
          have hkl : (keepP p (L.take ka)).length ≤ ka := by
            have := List.length_filter_le (fun x : Win => (x.1 : Int) != p) (L.take ka)
            have h2 : (L.take ka).length ≤ ka := by simp; omega
            unfold keepP; omega
          have M := keepP_take p hx
          obtain ⟨hi, hz0, hz1, hz2⟩ := Hi.out
          have Hi1 := hide hi
          have Hi2 := hide hz0
          have Hi3 := hide hz1
          have Hi4 := hide hz2
          have Ho := hide hown
          have HB := hide hB
          clear hcs c0 c1 c2 hx hown hB hi hz0 hz1 hz2
          cases hne : ((x.1 : Int) != p) with
          | true =>
            rw [if_pos hne] at M
            have HM := hide M
            clear M
            generalize keepP p (L.take ka) = K at *
            go_wp2
            go_quiet (fail)
            go_wp2_with (at_builtin; refine wpList_append_lies _ rfl (.tmp 126) (.tmp 131) 35 rfl w6.heap.size 38 i0 (.agg #[.int .i64 0, .int .i64 0, .int .i64 0]) 3 24 Tryd.underlying35 Hi1.out Hi2.out Hi3.out Hi4.out rfl (by decide) (.slice Aa' K.length ca') K.length (rowW K) rfl (World.ownsRow.alloc Ho.out _) ⟨wr.heap.size, 0, none⟩ 1 1 [.int .i64 x.1, .int .i64 x.2.1, .int .i64 x.2.2] rfl rfl (World.news_of_block (B := wr.heap.size) (heap_alloc_new _ _)) (by intro u hu; simp at hu; rcases hu with rfl | rfl | rfl <;> rfl) (by omega) (by unfold maxLen; omega) (by omega) (by simp; omega) _ rfl ?_; intro g2 cap w2 hown2 hgrow hat hlt2)
            go_roundw
            case rel =>
              have hr := Ho.out.lt
              refine ⟨ka + 1, some ⟨g2, 0, none⟩, cap, hlt, by go_num, by rw [HM.out]; simp, ?_, ?_⟩
              · rw [HM.out, ← rowW_snoc]
                simpa using hown2
              · exact ((below_drewN HB.out _).alloc HB.out.size _).grown hgrow (by simp; omega) (fun j hj => (hr j hj).1)
            case measure => simp [intOf]; omega
          | false =>
            rw [if_neg (by rw [hne]; decide), List.append_nil] at M
            have HM := hide M
            clear M
            go_wp2
            go_quiet (fail)
            go_wp2
            go_roundw
            case rel => exact ⟨ka + 1, Aa', ca', hlt, by go_num, by rw [HM.out], by rw [HM.out]; exact Ho.out, below_drewN HB.out _⟩
            case measure => simp [intOf]; omega
        · obtain rfl : ka = L.length := by omega
          rw [List.take_length] at *
          have HR7 := hide (SlotRow.of_own hown)
          have HM7 := hide (HM6.out.below hB)
          have HB7 := hide (HB6.out.trans (hB.mono (Nat.le_trans (Nat.le_of_eq HBX.out) (Nat.le_of_lt hbx'))))
          have z7 := (hB.cell (p := ⟨bx, 1, none⟩) hbx').trans z1'
          have hbx7 : bx < wr.heap.size := Nat.lt_of_lt_of_le hbx' hB.size
          have hKa : (keepP p L).length ≤ 256 := Nat.le_trans (List.length_filter_le _ _) hL256
          clear hown hB HM6 HR6 HB6 z1' hbx'
          generalize wr = w7 at *
          go_wp2
          go_loopw [16, 18] (fun v i wr => ∃ (k : Nat) (A' : Option Addr) (c' : Nat), k ≤ L'.length ∧ i = .int .i64 k ∧ v = .slice A' (keepP p (L'.take k)).length c' ∧ wr.ownsRow w7.heap.size 38 3 (.slice A' (keepP p (L'.take k)).length c') (keepP p (L'.take k)).length (rowW (keepP p (L'.take k))) ∧ Below w7.heap.size w7 wr) (fun _ i _ => L'.length - (intOf i).toNat)
          case atStart => exact ⟨0, none, 0, Nat.zero_le _, rfl, rfl, World.ownsRow_nil _ _ _ _, Below.refl _ _⟩
          case round =>
            obtain ⟨kb, Ab', cb', hkb, rfl, rfl, hown, hB⟩ := hrel
            by_cases hlt : kb < L'.length
            · obtain ⟨g, rfl, hg, hcs⟩ := HM7.out (by omega)
              obtain ⟨x, hx⟩ : ∃ x, L'[kb]? = some x := ⟨L'[kb], List.getElem?_eq_getElem hlt⟩
              obtain ⟨c0, c1, c2⟩ := hcs kb x hx
              have d0 := (hB.cell (p := ⟨g, kb * 3, none⟩) hg).trans c0
              have d1 := (hB.cell (p := ⟨g, kb * 3 + 1, none⟩) hg).trans c1
              have d2 := (hB.cell (p := ⟨g, kb * 3 + 2, none⟩) hg).trans c2
              have dp := (hB.cell (p := ⟨bx, 1, none⟩) hbx7).trans z7
              have hsz := hB.size
              have hkl : (keepP p (L'.take kb)).length ≤ kb := by
                have := List.length_filter_le (fun x : Win => (x.1 : Int) != p) (L'.take kb)
                have h2 : (L'.take kb).length ≤ kb := by simp; omega
                unfold keepP; omega
              have M := keepP_take p hx
              obtain ⟨hi, hz0, hz1, hz2⟩ := Hi.out
              have Hi1 := hide hi
              have Hi2 := hide hz0
              have Hi3 := hide hz1
              have Hi4 := hide hz2
              have Ho := hide hown
              have HB := hide hB
              clear hcs c0 c1 c2 hx hown hB hi hz0 hz1 hz2
              cases hne : ((x.1 : Int) != p) with
              | true =>
                rw [if_pos hne] at M
                have HM := hide M
                clear M
                generalize keepP p (L'.take kb) = K at *
                go_wp2
                go_quiet (fail)
                go_wp2_with (at_builtin; refine wpList_append_lies _ rfl (.tmp 147) (.tmp 152) 35 rfl w7.heap.size 38 i0 (.agg #[.int .i64 0, .int .i64 0, .int .i64 0]) 3 24 Tryd.underlying35 Hi1.out Hi2.out Hi3.out Hi4.out rfl (by decide) (.slice Ab' K.length cb') K.length (rowW K) rfl (World.ownsRow.alloc Ho.out _) ⟨wr.heap.size, 0, none⟩ 1 1 [.int .i64 x.1, .int .i64 x.2.1, .int .i64 x.2.2] rfl rfl (World.news_of_block (B := wr.heap.size) (heap_alloc_new _ _)) (by intro u hu; simp at hu; rcases hu with rfl | rfl | rfl <;> rfl) (by omega) (by unfold maxLen; omega) (by omega) (by simp; omega) _ rfl ?_; intro g2 cap w2 hown2 hgrow hat hlt2)
                go_roundw
                case rel =>
                  have hr := Ho.out.lt
                  refine ⟨kb + 1, some ⟨g2, 0, none⟩, cap, hlt, by go_num, by rw [HM.out]; simp, ?_, ?_⟩
                  · rw [HM.out, ← rowW_snoc]
                    simpa using hown2
                  · exact ((below_drewN HB.out _).alloc HB.out.size _).grown hgrow (by simp; omega) (fun j hj => (hr j hj).1)
                case measure => simp [intOf]; omega
              | false =>
                rw [if_neg (by rw [hne]; decide), List.append_nil] at M
                have HM := hide M
                clear M
                go_wp2
                go_quiet (fail)
                go_wp2
                go_roundw
                case rel => exact ⟨kb + 1, Ab', cb', hlt, by go_num, by rw [HM.out], by rw [HM.out]; exact Ho.out, below_drewN HB.out _⟩
                case measure => simp [intOf]; omega
            · obtain rfl : kb = L'.length := by omega
              rw [List.take_length] at *
              have HR8 := hide (HR7.out.below hB)
              have HM8 := hide (SlotRow.of_own hown)
              have HB8 := hide (HB7.out.trans (hB.mono (Nat.le_trans (Nat.le_of_eq HBX.out) (Nat.le_of_lt hbx7))))
              have hKb : (keepP p L').length ≤ 256 := Nat.le_trans (List.length_filter_le _ _) hM256
              clear hown hB
              go_wp2_with fail
              have hs := Tryd.Same_any Aa' Ab' ca' cb' (keepP p L) (keepP p L') wr HR8.out HM8.out (by omega) (by omega)
              rw [decide_eq_true Hk.out.symm] at hs
              refine hs.mono ?_
              clear hs
              rintro e w9 ⟨rfl, q9, rfl⟩
              have HB9 := hide (below_drewN HB8.out q9)
              clear HB8
              go_wp2
              go_ret
              exact ⟨rfl, HB9.out⟩

end Go.Proofs
