/- NetworkPlays: rounds of the main loop: Double. Laid by wip/mkarms.py. -/
import Derived.Test.YtmmcigpbajlneaaPlaysD
import Derived.Maps.AppendAt
set_option linter.unusedVariables false
set_option linter.unusedSimpArgs false
namespace Go.Proofs.Ytmmcigpbajlneaa
open Go.RowKit
set_option maxRecDepth 1000000

set_option maxHeartbeats 8000000 in
theorem double_round_some {A : Option Addr} {n c g : Nat} {f : Nat → Actv} {w1 W : World} {u v : Value} {i : Nat} {l : List Fr} {fr : Nat → Value} {Q0 : Exit → Act → World → Prop}
    (h : MainRel A n f g w1 u v i l W) (hin : i < n) (h40 : i < 40) (hl : l ≠ []) (hlt : l.length < 1024) (hop : ((f i).what.tmod 6 + 6).tmod 6 = 3) :
    Code.wp Try.prog mainBody (Exit.then (fun a' w' => MainI A n c f g w1 a' w' ∧ MainMu a' w' < MainMu (mainFrame A n c g u i fr) W) Q0) (mainFrame A n c g u i fr) W := by
  obtain ⟨a, rfl, hab, p0, p1, p2, p3, p4⟩ := act_cells h.acts i hin
  have hb := h.below
  rw [← h.lg] at hab
  have k0 := (hb.cell (p := a.add (i * 5)) hab).trans p0
  have k1 := (hb.cell (p := ⟨(a.add (i * 5)).block, (a.add (i * 5)).off + 1, none⟩) hab).trans p1
  have k2 := (hb.cell (p := ⟨(a.add (i * 5)).block, (a.add (i * 5)).off + 2, none⟩) hab).trans p2
  have k3 := (hb.cell (p := ⟨(a.add (i * 5)).block, (a.add (i * 5)).off + 3, none⟩) hab).trans p3
  have k4 := (hb.cell (p := ⟨(a.add (i * 5)).block, (a.add (i * 5)).off + 4, none⟩) hab).trans p4
  have hn63 := h.acts.small
  have hr := h.plays.row
  have hfew := h.few
  have hgl := h.plays.lt
  obtain ⟨x, hx⟩ : ∃ x, (f i).what.tmod 6 = x := ⟨_, rfl⟩
  have hx1 : -6 < x := by rw [← hx]; exact Int.lt_tmod_of_pos _ (by decide)
  have hx2 : x < 6 := by rw [← hx]; exact Int.tmod_lt_of_pos _ (by decide)
  rw [hx] at hop
  obtain ⟨i0, hi0, hz0, hz1, hz2⟩ := info_parts infoRef
  have hdl : decide ((l.length : Int) < 1024) = true := by rw [decide_eq_true_eq]; omega
  have hpos : 0 < l.length := List.length_pos_iff.2 hl
  obtain ⟨b, cu, rfl⟩ := own_some hr hpos
  obtain ⟨y, hy⟩ : ∃ y, l[place (f i).i l.length]? = some y := ⟨_, List.getElem?_eq_getElem (place_lt _ hpos)⟩
  have hkl : place (f i).i l.length < l.length := place_lt _ hpos
  have PL := Lib.hid (fun w : World => place_calls (f i).i l.length w hpos (by omega))
  have hTs : y.s.size ≤ 60 := h.small y (List.mem_of_getElem? hy)
  have LK := Lib.hid (fun (w : World) (hN : NetAt w g g v l) (hB : g ≤ w.heap.size) => double_calls (f i).i y hN hB hlt hy)
  have HY0 := hy
  have hyl := List.mem_of_getElem? hy
  generalize hkk : place (f i).i l.length = kk at *
  have HY := Lib.hid hy
  have H := Lib.hid h
  have hbl := (hr.lt b rfl).2
  obtain ⟨c0, c1, c2, c3⟩ := row_cells hr kk y hy
  clear h hb p0 p1 p2 p3 p4 hr hl hy HY0 hyl
  unfold mainFrame
  conv => arg 2; whnf
  go_wp2_with fail
  all_goals
    refine (PL.out _).mono ?_
    rintro e w2 ⟨rfl, rfl⟩
    go_wp2_with fail
    refine (LK.out _ (H.out.plays.net.alloc _) (by simp; omega)).mono ?_
    rintro e w3 ⟨rfl, hn3⟩
    obtain ⟨v3, hh3, hb3, hc3⟩ := (H.out.plays.alloc _).half (H.out.below.alloc (by omega) _) hn3
    obtain ⟨d0, d1, d2, d3⟩ := row_cells hh3.row kk y HY.out
    have hbl3 := (hh3.row.lt b rfl).2
    have HH := Lib.hid hh3
    have HB := Lib.hid hb3
    have hz3 := hb3.size
    have hz4 : W.heap.size < w3.heap.size := by have := hc3.size; simp at this; omega
    clear hn3 hh3 hb3 hc3 k0 k1 k2 k3 k4 c0 c1 c2 c3
    go_wp2_with (at_builtin; refine wpList_append_own_at _ rfl (.tmp 178) (.tmp 183) 27 rfl g 30 i0 (.agg #[.int .i64 0, .int .i64 0, .string ⟨#[]⟩, .bool false]) 4 40 Try.underlying27 hi0 hz0 hz1 hz2 rfl (by decide) (.slice (some ⟨b, 0, none⟩) l.length cu) l.length (frCells l) rfl (HH.out.row.alloc _) ⟨w3.heap.size, 0, none⟩ 1 1 [.int .i64 y.a, .int .i64 y.b, .string y.s, .bool y.t] rfl rfl ?c1 ?c2 ?c3 ?c4 ?c5 ?next)
    case c1 => exact World.news_of_block (cs := #[.int .i64 y.a, .int .i64 y.b, .string y.s, .bool y.t]) (t := 30) (fr := (0, 0)) (heap_alloc_new w3 _)
    case c2 => intro u hu; simp only [List.mem_cons, List.not_mem_nil, or_false] at hu; rcases hu with rfl | rfl | rfl | rfl <;> rfl
    case c3 => simp only [maxLen]; omega
    case c4 => omega
    case c5 => simp; omega
    case next =>
      intro v4 w4 hown hg4 _ _
      obtain ⟨g1, cap1, rfl⟩ := own_some hown (by omega)
      have HP := Lib.hid (HH.out.appended (m := [(⟨y.a, y.b, y.s, y.t⟩ : Fr)]) ((Below.refl _ _).alloc (Nat.le_refl _) _) hown hg4)
      have HB4 := Lib.hid (row_grown_below (HB.out.alloc (by omega) _) (by simp; omega) (HH.out.row.alloc _) hg4)
      clear hown hg4 HH HB
      go_wp2_with fail
      refine (count_calls (B := g) HP.out.net).mono ?_
      rintro e w5 ⟨rfl, rfl⟩
      rw [show (l ++ [(⟨y.a, y.b, y.s, y.t⟩ : Fr)]).length = l.length + 1 by simp]
      go_wp2_with fail
      exact main_next (H.out.step hin h40 HP.out HB4.out (by simp <;> omega) (by
        intro z hz
        rcases List.mem_append.1 hz with hz | hz
        · exact H.out.small z hz
        · obtain rfl := List.mem_singleton.1 hz
          exact hTs)) _ rfl
end Go.Proofs.Ytmmcigpbajlneaa
