/- NetworkPlays: rounds of the main loop: Take. Laid by wip/mkarms.py. -/
import Derived.Test.YtmmcigpbajlneaaPlaysApp
set_option linter.unusedVariables false
set_option linter.unusedSimpArgs false
namespace Go.Proofs.Ytmmcigpbajlneaa
open Go.RowKit
set_option maxRecDepth 1000000

set_option maxHeartbeats 8000000 in
theorem take_round_some {A : Option Addr} {n c g : Nat} {f : Nat → Actv} {w1 W : World} {u v : Value} {i : Nat} {l : List Fr} {fr : Nat → Value} {Q0 : Exit → Act → World → Prop}
    (h : MainRel A n f g w1 u v i l W) (hin : i < n) (h40 : i < 40) (hl : l ≠ []) (hop : ((f i).what.tmod 6 + 6).tmod 6 = 2) :
    Code.wp Try.prog mainBody (Exit.then (fun a' w' => MainI A n c f g w1 a' w' ∧ MainMu a' w' < MainMu (mainFrame A n c g u i fr) W) Q0) (mainFrame A n c g u i fr) W := by
  obtain ⟨a, rfl, hab, p0, p1, p2, p3, p4⟩ := act_cells h.acts i hin
  have hb := h.below
  rw [← h.lg] at hab
  have k0 := (hb.cell (p := a.add (i * 5)) hab).trans p0
  have k1 := (hb.cell (p := ⟨(a.add (i * 5)).block, (a.add (i * 5)).off + 1, none⟩) hab).trans p1
  have k2 := (hb.cell (p := ⟨(a.add (i * 5)).block, (a.add (i * 5)).off + 2, none⟩) hab).trans p2
  have k3 := (hb.cell (p := ⟨(a.add (i * 5)).block, (a.add (i * 5)).off + 3, none⟩) hab).trans p3
  have k4 := (hb.cell (p := ⟨(a.add (i * 5)).block, (a.add (i * 5)).off + 4, none⟩) hab).trans p4
  have hn63 := h.acts.small
  have hr := h.plays.row
  have hfew := h.few
  have hgl := h.plays.lt
  obtain ⟨x, hx⟩ : ∃ x, (f i).what.tmod 6 = x := ⟨_, rfl⟩
  have hx1 : -6 < x := by rw [← hx]; exact Int.lt_tmod_of_pos _ (by decide)
  have hx2 : x < 6 := by rw [← hx]; exact Int.tmod_lt_of_pos _ (by decide)
  rw [hx] at hop
  obtain ⟨i0, hi0, hz0, hz1, hz2⟩ := info_parts infoRef
  have hpos : 0 < l.length := List.length_pos_iff.2 hl
  obtain ⟨b, cu, rfl⟩ := own_some hr hpos
  obtain ⟨y, hy⟩ : ∃ y, l[place (f i).i l.length]? = some y := ⟨_, List.getElem?_eq_getElem (place_lt _ hpos)⟩
  have hkl : place (f i).i l.length < l.length := place_lt _ hpos
  have PL := Lib.hid (fun w : World => place_calls (f i).i l.length w hpos (by omega))
  have LK := Lib.hid (fun (w : World) (hN : NetAt w g g v l) => take_some (f i).i y hN hfew hy)
  have HY0 := hy
  have hyl := List.mem_of_getElem? hy
  generalize hkk : place (f i).i l.length = kk at *
  have HY := Lib.hid hy
  have H := Lib.hid h
  have hbl := (hr.lt b rfl).2
  obtain ⟨c0, c1, c2, c3⟩ := row_cells hr kk y hy
  clear h hb p0 p1 p2 p3 p4 hr hl hy HY0 hyl
  unfold mainFrame
  conv => arg 2; whnf
  go_wp2_with fail
  all_goals
    refine (PL.out _).mono ?_
    rintro e w2 ⟨rfl, rfl⟩
    go_wp2_with fail
    unfold Fr.agg at LK
    refine (LK.out _ (H.out.plays.net.alloc _)).mono ?_
    rintro e w3 ⟨rfl, hn3⟩
    obtain ⟨v3, hh3, hb3, hc3⟩ := (H.out.plays.alloc _).half (H.out.below.alloc (by omega) _) hn3
    obtain ⟨d0, d1, d2, d3⟩ := row_cells hh3.row kk y HY.out
    have hbl3 := (hh3.row.lt b rfl).2
    have HH := Lib.hid hh3
    have HB := Lib.hid hb3
    have hz3 := hb3.size
    clear hn3 hh3 hb3 hc3 k0 k1 k2 k3 k4 c0 c1 c2 c3
    go_wp2_with fail
    go_quiet (fail)
    go_wp2_with fail
    have Q4 : ∀ nq, Half ((w3.alloc (.cells #[.int .i64 y.a, .int .i64 y.b, .string y.s, .bool y.t] 35)).drewN nq) g v3 (.slice (some ⟨b, 0, none⟩) l.length cu) (l.eraseIdx kk) l ∧ Below g w1 ((w3.alloc (.cells #[.int .i64 y.a, .int .i64 y.b, .string y.s, .bool y.t] 35)).drewN nq) :=
      fun nq => ⟨(HH.out.alloc _).below (below_drewN (Below.refl _ _) nq), below_drewN (HB.out.alloc (by have := H.out.lg; omega) _) nq⟩
    generalize hW4 : (w3.alloc (.cells #[.int .i64 y.a, .int .i64 y.b, .string y.s, .bool y.t] 35)).drewN _ = W4
    have q4 : Half W4 g v3 (.slice (some ⟨b, 0, none⟩) l.length cu) (l.eraseIdx kk) l ∧ Below g w1 W4 := by rw [← hW4]; exact Q4 _
    clear Q4 hW4 HH HB d0 d1 d2 d3
    obtain ⟨hh4, hb4⟩ := q4
    obtain ⟨cur, hcur, _, hlc, hcm, _, _⟩ := own_open hh4.row
    have e1 : (0 : Int) ≤ (kk : Int) := by omega
    have e2 : (kk : Int) ≤ (cu : Int) := by omega
    have e3 : IntKind.i64.wrap ((kk : Int) + 1) = (kk : Int) + 1 := by rw [IntKind.wrap_i64]; omega
    have e4 : (0 : Int) ≤ (kk : Int) + 1 := by omega
    have e5 : (kk : Int) + 1 ≤ (l.length : Int) := by omega
    have e6 : ((kk : Int) + 1).toNat = kk + 1 := by omega
    have e7 : (l.length : Int) ≤ (cu : Int) := by omega
    have e8 : kk ≤ cu := by omega
    have e9 : kk + 1 ≤ l.length := by omega
    have e10 : l.length ≤ cu := by omega
    clear hcur
    have hlen := frCells_length l
    have s1 : Hid ((W4.alloc (.cells #[] 30)).drew.ownsRow g 30 4 (.slice (some ⟨W4.heap.size, 0, none⟩) 0 0) 0 []) :=
      ⟨rfl, .inr ⟨W4.heap.size, 0, #[], rfl, by have := hb4.size; have := H.out.lg; omega, by rw [heap_drew]; exact heap_alloc_new W4 _, Nat.le_refl _, by decide, rfl, rfl⟩⟩
    have hbA : Below W4.heap.size W4 (W4.alloc (.cells #[] 30)).drew := ((Below.refl _ _).alloc (Nat.le_refl _) _).drew
    have hhA := Lib.hid (hh4.below hbA)
    have HbA := Lib.hid (hb4.trans (hbA.mono (by have := hb4.size; have := H.out.lg; omega)))
    have s2 := Lib.hid (row_news hhA.out.row 0 (kk * 4))
    have s3 : Hid (∀ u ∈ ((frCells l).drop 0).take (kk * 4), u.oneCell' = true) := fun u hu => frCells_one l u (List.mem_of_mem_drop (List.mem_of_mem_take hu))
    have s4 : Hid ((((frCells l).drop 0).take (kk * 4)).length = kk * 4) := by show _ = _; rw [List.length_take, List.length_drop, hlen]; omega
    have s5 : Hid (0 + kk ≤ maxLen) := by show _ ≤ _; simp only [maxLen]; omega
    have s6 : Hid ((0 + kk) * 40 ≤ 140737488355328) := by show _ ≤ _; omega
    have s7 : Hid (g ≤ (W4.alloc (.cells #[] 30)).drew.heap.size) := by have := hb4.size; have := H.out.lg; show _ ≤ _; simp; omega
    have t1 : Hid (∀ (w5 : World), (W4.alloc (.cells #[] 30)).drew.grownBy w5 (some W4.heap.size) → w5.ownsRow g 30 4 (.slice (some ⟨b, 0, none⟩) l.length cu) l.length (frCells l)) := fun w5 hg =>
      hhA.out.row.kept hg (.inr (by have := (hh4.row.lt b rfl).2; simp [Value.ownBlock]; omega))
    have t2 : Hid (∀ (w5 : World), (W4.alloc (.cells #[] 30)).drew.grownBy w5 (some W4.heap.size) → ∀ j u, (((frCells l).drop ((kk + 1) * 4)).take ((l.length - (kk + 1)) * 4))[j]? = some u → w5.cell? ((if cu = kk + 1 then (⟨b, 0, none⟩ : Addr) else ⟨b, (kk + 1) * 4, none⟩).add j) = some u) := fun w5 hg j u hu => by
      by_cases hc : cu = kk + 1
      · exfalso
        obtain ⟨hj, _⟩ := List.getElem?_eq_some_iff.1 hu
        rw [List.length_take] at hj
        omega
      · rw [if_neg hc]
        exact row_news (t1.out w5 hg) _ _ j u hu
    have t3 : Hid (∀ u ∈ ((frCells l).drop ((kk + 1) * 4)).take ((l.length - (kk + 1)) * 4), u.oneCell' = true) := fun u hu => frCells_one l u (List.mem_of_mem_drop (List.mem_of_mem_take hu))
    have t4 : Hid ((((frCells l).drop ((kk + 1) * 4)).take ((l.length - (kk + 1)) * 4)).length = (l.length - (kk + 1)) * 4) := by show _ = _; rw [List.length_take, List.length_drop, hlen]; omega
    have t5 : Hid (0 + kk + (l.length - (kk + 1)) ≤ maxLen) := by show _ ≤ _; simp only [maxLen]; omega
    have t6 : Hid ((0 + kk + (l.length - (kk + 1))) * 40 ≤ 140737488355328) := by show _ ≤ _; omega
    have t7 : Hid (∀ (w5 : World), (W4.alloc (.cells #[] 30)).drew.grownBy w5 (some W4.heap.size) → g ≤ w5.heap.size) := fun w5 hg => Nat.le_trans s7.out hg.size
    clear hh4 hb4 hbA
    refine wp_region_noPanic ?_
    go_region_law? (first
      | (refine step_append_own rfl (.tmp 152) (.tmp 155) 27 rfl g 30 i0 (.agg #[.int .i64 0, .int .i64 0, .string ⟨#[]⟩, .bool false]) 4 40 Try.underlying27 hi0 hz0 hz1 hz2 rfl (by decide) (.slice (some ⟨W4.heap.size, 0, none⟩) 0 0) 0 [] (by simp [Act.eval, Act.put]) s1.out ⟨b, 0, none⟩ kk cu (((frCells l).drop 0).take (kk * 4)) (by simp [Act.eval, Act.put]) s4.out s2.out s3.out s5.out s6.out s7.out ?_; intro v5 w5 hown5 hg5)
      | (refine step_append_own rfl (.tmp 156) (.tmp 160) 27 rfl g 30 i0 (.agg #[.int .i64 0, .int .i64 0, .string ⟨#[]⟩, .bool false]) 4 40 Try.underlying27 hi0 hz0 hz1 hz2 rfl (by decide) v5 (0 + kk) ([] ++ ((frCells l).drop 0).take (kk * 4)) (by simp [Act.eval, Act.put]) hown5 (if cu = kk + 1 then (⟨b, 0, none⟩ : Addr) else ⟨b, (kk + 1) * 4, none⟩) (l.length - (kk + 1)) (cu - (kk + 1)) (((frCells l).drop ((kk + 1) * 4)).take ((l.length - (kk + 1)) * 4)) (by simp [Act.eval, Act.put]; split <;> rfl) t4.out (t2.out _ hg5) t3.out t5.out t6.out (t7.out _ hg5) ?_; intro v6 w6 hown6 hg6))
    all_goals
      refine NoPanic.normal ?_
      have hN6 := ((hhA.out.net.grown s1.out hg5 (by decide) (by decide)).grown hown5 hg6 (by decide) (by decide))
      have hB6 := row_grown_below (row_grown_below HbA.out s7.out s1.out hg5) (t7.out _ hg5) hown5 hg6
      have hP6 : Plays w6 g v3 v6 (l.eraseIdx kk) := ⟨hN6, by rw [erase_length l kk hkl, ← erase_cells l kk hkl]; exact hown6⟩
      have hel := erase_length l kk hkl
      have hel2 : 0 + kk + (l.length - (kk + 1)) + 1 = l.length := by omega
      generalize 0 + kk + (l.length - (kk + 1)) = N at *
      obtain ⟨A6, c6, rfl⟩ := own_form hown6
      have HP := Lib.hid hP6
      have HB6 := Lib.hid hB6
      clear hown5 hg5 hown6 hg6 hN6 hB6 hP6 s1 s2 s3 s4 s5 s6 s7 t1 t2 t3 t4 t5 t6 t7 hhA HbA
      go_wp2_with fail
      all_goals
        refine (count_calls (B := g) HP.out.net).mono ?_
        rintro e w7 ⟨rfl, rfl⟩
        rw [hel]
        go_wp2_with fail
        all_goals exact main_next (H.out.step hin h40 HP.out HB6.out (by omega) (fun z hz => H.out.small z (List.mem_of_mem_eraseIdx hz))) _ rfl
end Go.Proofs.Ytmmcigpbajlneaa
