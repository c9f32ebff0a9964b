/- NetworkPlays: rounds of the main loop: Spoil. Laid by wip/mkarms.py. -/
import Derived.Test.YtmmcigpbajlneaaPlaysTurn
set_option linter.unusedVariables false
set_option linter.unusedSimpArgs false
namespace Go.Proofs.Ytmmcigpbajlneaa
open Go.RowKit
set_option maxRecDepth 1000000

set_option maxHeartbeats 8000000 in
theorem spoil_round_some {A : Option Addr} {n c g : Nat} {f : Nat → Actv} {w1 W : World} {u v : Value} {i : Nat} {l : List Fr} {fr : Nat → Value} {Q0 : Exit → Act → World → Prop}
    (h : MainRel A n f g w1 u v i l W) (hin : i < n) (h40 : i < 40) (hl : l ≠ []) (hop : ((f i).what.tmod 6 + 6).tmod 6 = 4) :
    Code.wp Try.prog mainBody (Exit.then (fun a' w' => MainI A n c f g w1 a' w' ∧ MainMu a' w' < MainMu (mainFrame A n c g u i fr) W) Q0) (mainFrame A n c g u i fr) W := by
  obtain ⟨a, rfl, hab, p0, p1, p2, p3, p4⟩ := act_cells h.acts i hin
  have hb := h.below
  rw [← h.lg] at hab
  have k0 := (hb.cell (p := a.add (i * 5)) hab).trans p0
  have k1 := (hb.cell (p := ⟨(a.add (i * 5)).block, (a.add (i * 5)).off + 1, none⟩) hab).trans p1
  have k2 := (hb.cell (p := ⟨(a.add (i * 5)).block, (a.add (i * 5)).off + 2, none⟩) hab).trans p2
  have k3 := (hb.cell (p := ⟨(a.add (i * 5)).block, (a.add (i * 5)).off + 3, none⟩) hab).trans p3
  have k4 := (hb.cell (p := ⟨(a.add (i * 5)).block, (a.add (i * 5)).off + 4, none⟩) hab).trans p4
  have hn63 := h.acts.small
  have hr := h.plays.row
  have hfew := h.few
  have hgl := h.plays.lt
  obtain ⟨x, hx⟩ : ∃ x, (f i).what.tmod 6 = x := ⟨_, rfl⟩
  have hx1 : -6 < x := by rw [← hx]; exact Int.lt_tmod_of_pos _ (by decide)
  have hx2 : x < 6 := by rw [← hx]; exact Int.tmod_lt_of_pos _ (by decide)
  rw [hx] at hop
  obtain ⟨i0, hi0, hz0, hz1, hz2⟩ := info_parts infoRef
  have hpos : 0 < l.length := List.length_pos_iff.2 hl
  obtain ⟨b, cu, rfl⟩ := own_some hr hpos
  obtain ⟨y, hy⟩ : ∃ y, l[place (f i).i l.length]? = some y := ⟨_, List.getElem?_eq_getElem (place_lt _ hpos)⟩
  have hkl : place (f i).i l.length < l.length := place_lt _ hpos
  have PL := Lib.hid (fun w : World => place_calls (f i).i l.length w hpos (by omega))
  have hys : y.s.size ≤ 100000 := Nat.le_trans (h.small y (List.mem_of_getElem? hy)) (by decide)
  have hby0 : 0 ≤ (f i).by_ := by obtain ⟨_, _, _, _, _, _, _, _, q, _⟩ := h.acts.at_ i hin; exact q
  have hby1 : (f i).by_ ≤ 4294967295 := by obtain ⟨_, _, _, _, _, _, _, _, _, q, _⟩ := h.acts.at_ i hin; exact q
  have HY0 := hy
  have hyl := List.mem_of_getElem? hy
  generalize hkk : place (f i).i l.length = kk at *
  have HY := Lib.hid hy
  have H := Lib.hid h
  have hbl := (hr.lt b rfl).2
  obtain ⟨c0, c1, c2, c3⟩ := row_cells hr kk y hy
  clear h hb p0 p1 p2 p3 p4 hr hl hy HY0 hyl
  unfold mainFrame
  conv => arg 2; whnf
  go_wp2_with fail
  all_goals
    refine (PL.out _).mono ?_
    rintro e w2 ⟨rfl, rfl⟩
    have hlen := frCells_length l
    have hWA : Below W.heap.size W (W.alloc (.cells #[.int .i64 (f i).what, .int .i64 (f i).i, .int .i64 (f i).pos, .int .u32 (f i).by_, .string (f i).text] 33)) := (Below.refl _ _).alloc (Nat.le_refl _) _
    have hWB := hWA.alloc (by simp) (.cells #[] 30)
    have HP0 := Lib.hid (H.out.plays.below hWB)
    have HB0 := Lib.hid (H.out.below.trans (hWB.mono (by omega)))
    have s1 : Hid (((W.alloc (.cells #[.int .i64 (f i).what, .int .i64 (f i).i, .int .i64 (f i).pos, .int .u32 (f i).by_, .string (f i).text] 33)).alloc (.cells #[] 30)).ownsRow g 30 4 (.slice (some ⟨W.heap.size + 1, 0, none⟩) 0 0) 0 []) :=
      ⟨rfl, .inr ⟨W.heap.size + 1, 0, #[], rfl, by omega, by simpa using heap_alloc_new (W.alloc (.cells #[.int .i64 (f i).what, .int .i64 (f i).i, .int .i64 (f i).pos, .int .u32 (f i).by_, .string (f i).text] 33)) _, Nat.le_refl _, by decide, rfl, rfl⟩⟩
    clear hWA hWB
    go_wp2_with (at_builtin; refine wpList_append_own_at _ rfl (.tmp 190) (.tmp 191) 27 rfl g 30 i0 (.agg #[.int .i64 0, .int .i64 0, .string ⟨#[]⟩, .bool false]) 4 40 Try.underlying27 hi0 hz0 hz1 hz2 rfl (by decide) (.slice (some ⟨W.heap.size + 1, 0, none⟩) 0 0) 0 [] rfl s1.out ⟨b, 0, none⟩ l.length cu (((frCells l).drop 0).take (l.length * 4)) rfl ?c0 ?c1 ?c2 ?c3 ?c4 ?c5 ?next)
    case c0 => rw [List.length_take, List.length_drop, hlen]; omega
    case c1 => exact row_news HP0.out.row 0 (l.length * 4)
    case c2 => exact fun u hu => frCells_one l u (List.mem_of_mem_drop (List.mem_of_mem_take hu))
    case c3 => simp only [maxLen]; omega
    case c4 => omega
    case c5 => simp; omega
    case next =>
      intro v4 w4 hown hg4 _ hat4
      have hN4 := HP0.out.net.grown s1.out hg4 (by decide) (by decide)
      have hB4 := row_grown_below HB0.out (by simp; omega) s1.out hg4
      have hx9 : w4.heap[W.heap.size]? = some (.cells #[.int .i64 (f i).what, .int .i64 (f i).i, .int .i64 (f i).pos, .int .u32 (f i).by_, .string (f i).text] 33 (0, 0)) := by
        rw [hg4.block W.heap.size (by simp; omega) (by simp [Value.ownBlock])]
        exact (Below.heap_alloc _ _ _ (by simp)).trans (heap_alloc_new W _)
      have x1 : w4.cell? ⟨W.heap.size, 1, none⟩ = some (.int .i64 (f i).i) := cells_cell hx9 1
      have x2 : w4.cell? ⟨W.heap.size, 2, none⟩ = some (.int .i64 (f i).pos) := cells_cell hx9 2
      have x3 : w4.cell? ⟨W.heap.size, 3, none⟩ = some (.int .u32 (f i).by_) := cells_cell hx9 3
      have hz4 : W.heap.size < w4.heap.size := (Array.getElem?_eq_some_iff.1 hx9).1
      rw [List.take_of_length_le (by rw [hlen]; omega)] at hown
      obtain ⟨b4, c4, rfl⟩ := own_some hown hpos
      have hb4n : b4 ≠ W.heap.size := by
        rcases hat4 with h | h
        · simp only [Value.ownBlock, Option.some.injEq] at h; omega
        · simp only [Value.ownBlock, Option.some.injEq, World.size_alloc] at h; omega
      clear hat4
      obtain ⟨d0, d1, d2, d3⟩ := row_cells hown kk y HY.out
      have hb4l := (hown.lt b4 rfl).2
      have TL := Lib.hid (fun (w : World) => turned_any y (f i).pos (f i).by_ w hby0 hby1 hys)
      have HOWN := Lib.hid hown
      have HN4 := Lib.hid hN4
      have HB4 := Lib.hid hB4
      clear hown hg4 hN4 hB4 hx9 s1 HP0 HB0
      unfold Fr.agg at TL
      have SA := Lib.hid (fun (w : World) (m : List Fr) (hh : Half w g v (.slice (some ⟨b4, 0, none⟩) l.length c4) l m) (hb : Below g w1 w) => spoil_any (f i).i (f i).pos (f i).by_ y hh hfew (by rw [hkk]; exact HY.out) hb hby0 hby1 hys)
      rw [hkk] at SA
      generalize hTU : turnOf y (f i).pos (f i).by_ = tu at *
      obtain ⟨y2, r⟩ := tu
      simp only at TL SA
      have HTU := Lib.hid hTU
      clear hTU
      go_wp2_with fail
      apply wp_meets (fun w5 : World => Below w4.drew.heap.size w4.drew w5)
      case h =>
        go_region_with ((go_at_call 10; refine (TL.out _).mono ?_; rintro e w5 ⟨rfl, hb5⟩; have HO5 := Lib.hid (row_below (World.ownsRow.drew HOWN.out) hb5); have z0 := HO5.out.frozenAt (kk * 4); have z1 := HO5.out.frozenAt (kk * 4 + 1); have z2 := HO5.out.frozenAt (kk * 4 + 2); have z3 := HO5.out.frozenAt (kk * 4 + 3); have d5 := (hb5.cell (p := ⟨b4, kk * 4, none⟩) hb4l).trans d0; have d6 := (hb5.cell (p := ⟨b4, kk * 4 + 1, none⟩) hb4l).trans d1; have d7 := (hb5.cell (p := ⟨b4, kk * 4 + 2, none⟩) hb4l).trans d2; have d8 := (hb5.cell (p := ⟨b4, kk * 4 + 3, none⟩) hb4l).trans d3))
        all_goals exact ⟨_, hb5, rfl, rfl⟩
      intro w5 hb5
      have hh5 : Half w5 g v (.slice (some ⟨b4, 0, none⟩) l.length c4) l l := (Half.drew ⟨HN4.out, HOWN.out⟩).below hb5
      obtain ⟨hh6, hg6⟩ := hh5.put kk hkl y2
      have hgl4 : g ≤ w4.heap.size := by have := HN4.out.lt; omega
      have hgl5 : g ≤ w5.heap.size := by have := hb5.size; simp at this; omega
      have hb5' : Below g w1 w5 := (HB4.out.drew).trans (hb5.mono hgl4)
      have hb6 := row_grown_below hb5' hgl5 hh5.row hg6
      have x4 : w5.cell? ⟨W.heap.size, 1, none⟩ = some (.int .i64 (f i).i) := (hb5.cell (p := ⟨W.heap.size, 1, none⟩) hz4).trans x1
      have x5 : w5.cell? ⟨W.heap.size, 2, none⟩ = some (.int .i64 (f i).pos) := (hb5.cell (p := ⟨W.heap.size, 2, none⟩) hz4).trans x2
      have x6 : w5.cell? ⟨W.heap.size, 3, none⟩ = some (.int .u32 (f i).by_) := (hb5.cell (p := ⟨W.heap.size, 3, none⟩) hz4).trans x3
      have hz5 : W.heap.size < w5.heap.size := by have := hb5.size; simp at this; omega
      have hne : some W.heap.size ≠ some b4 := by intro e; injection e with e; exact hb4n e.symm
      replace x4 := (World.cell?_of_block (hg6.block W.heap.size hz5 hne)).trans x4
      replace x5 := (World.cell?_of_block (hg6.block W.heap.size hz5 hne)).trans x5
      replace x6 := (World.cell?_of_block (hg6.block W.heap.size hz5 hne)).trans x6
      generalize hW6 : (((w5.setCell ⟨b4, kk * 4, none⟩ (.int .i64 y2.a)).setCell ⟨b4, kk * 4 + 1, none⟩ (.int .i64 y2.b)).setCell ⟨b4, kk * 4 + 2, none⟩ (.string y2.s)).setCell ⟨b4, kk * 4 + 3, none⟩ (.bool y2.t) = W6 at *
      have HH := Lib.hid hh6
      have HB := Lib.hid hb6
      clear hh5 hh6 hg6 hb5' hb6 hb5 d0 d1 d2 d3 x1 x2 x3 HOWN HN4 HB4 TL hW6 k0 k1 k2 k3 k4 c0 c1 c2 c3
      go_wp2_with fail
      refine (SA.out _ _ HH.out HB.out).mono ?_
      rintro e w7 ⟨rfl, v7, hh7, hb7⟩
      have HP := Lib.hid (Plays.mk hh7.net (by have := hh7.row; rw [List.length_set] at this ⊢; exact this) : Plays w7 g v7 (.slice (some ⟨b4, 0, none⟩) l.length c4) (l.set kk y2))
      have HB7 := Lib.hid hb7
      have hlset : (l.set kk y2).length = l.length := List.length_set
      clear hh7 hb7
      go_wp2_with fail
      refine (count_calls (B := g) HP.out.net).mono ?_
      rintro e w8 ⟨rfl, rfl⟩
      rw [hlset]
      go_wp2_with fail
      exact main_next (H.out.step hin h40 HP.out HB7.out (by rw [hlset]; exact hfew) (by
        intro z hz
        rcases List.mem_or_eq_of_mem_set hz with hz | rfl
        · exact H.out.small z hz
        · have := turnOf_size y (f i).pos (f i).by_
          rw [HTU.out] at this
          rw [this]
          exact H.out.small y (List.mem_of_getElem? HY.out))) _ rfl
end Go.Proofs.Ytmmcigpbajlneaa
