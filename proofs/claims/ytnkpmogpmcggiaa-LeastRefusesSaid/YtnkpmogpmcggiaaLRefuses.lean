/- LeastRefuses, walked. -/
import Derived.Test.YtnkpmogpmcggiaaLNo
import Derived.RegionTactic
import Derived.Deep.RegionWith
set_option linter.unusedVariables false
set_option linter.unusedSimpArgs false
namespace Go.Proofs.Ytnkpmogpmcggiaa
open Go.RowKit Go.Proofs.YtnkpmogpmcggiaaW.PrintWords Go.Proofs.YtnkpmogpmcggiaaW.PrintLast Go.Proofs.YtnkpmogpmcggiaaW.PrintMore

theorem right_of (s t : Int) : dRight s [t] = (decide (s = 0) && decide (t = 0)) := by
  unfold dRight
  simp only [List.length_singleton, List.any_cons, List.any_nil, Bool.or_false, termOut]
  have h1 : decide (((1 : Nat) : Int) ≤ 64) = true := by decide
  rw [h1]
  by_cases e : t = 0
  · subst e; simp
  · have : (decide (t < 0) || decide (((1 : Nat) : Int) ≤ t)) = true := by
      rcases (show t < 0 ∨ 1 ≤ t by omega) with h | h
      · simp [h]
      · simp [h]
    rw [this]
    simp [e]

theorem keepblk {W w : World} {b : Nat} {o : Obj} (hb : Below W.heap.size W w) (h : W.heap[b]? = some o) : w.heap[b]? = some o := (hb.block b (blk_lt h)).trans h
theorem size_two (W : World) (a b : Addr) (u v : Value) : ((W.setCell a u).setCell b v).heap.size = W.heap.size := by simp [World.setCell]
section
variable {A2 : Option Addr} {c2 : Nat} {A3 : Option Addr} {c3 : Nat} {A4 : Option Addr} {c4 : Nat} {w w2 : World} {o : Obj}
/-- Tree and Nodes of a word of one letter. -/
theorem tree_letter (s t er : Int) (hh : (s = 0 ∧ t = 0 ∧ er = 0) ∨ (¬ (s = 0 ∧ t = 0) ∧ er = 1)) (h : DAt w2 A2 c2 A3 c3 A4 c4) (hb : Below w2.heap.size w2 w) :
    Calls Try.prog 9 #[.agg #[.int .i64 s, .int .i64 1, .slice A2 1 c2, .slice A3 1 c3, .slice A4 3 c4], .slice (some ⟨w.heap.size, 0, none⟩) 1 1] (w.alloc (.cells #[.int .i64 t] 3)) fun e w' =>
      ∃ x A n c, e = .returned (.tuple #[.agg #[.int .i64 x, .slice A n c], .int .i64 er]) ∧ Below w.heap.size w w' := by
  have hC := lit_C [t] (by simp) (heap_alloc_new w (.cells #[.int .i64 t] 3))
  have hD := (h.below hb).below ((Below.refl _ _).alloc (Nat.le_refl _) (.cells #[.int .i64 t] 3))
  have hbb : ∀ w', Below (w.alloc (.cells #[.int .i64 t] 3)).heap.size (w.alloc (.cells #[.int .i64 t] 3)) w' → Below w.heap.size w w' := fun w' k => ((Below.refl _ _).alloc (Nat.le_refl _) _).trans (k.mono (by simp))
  rcases hh with ⟨rfl, rfl, rfl⟩ | ⟨e, rfl⟩
  · exact (tree_one hD hC (Nat.le_refl _)).mono fun _ _ ⟨x, A, n, c, he, hk⟩ => ⟨x, A, n, c, he, hbb _ hk⟩
  · exact (tree_bad hD hC (Nat.le_refl _) (by simp) (by rw [right_of]; simpa using fun h1 h2 => e ⟨h1, h2⟩)).mono fun _ _ ⟨x, A, n, c, he, hk⟩ => ⟨x, A, n, c, he, hbb _ hk⟩
theorem nodes_letter (s t nd : Int) (hh : (s = 0 ∧ t = 0 ∧ nd = 2) ∨ (¬ (s = 0 ∧ t = 0) ∧ nd = -1)) (h : DAt w2 A2 c2 A3 c3 A4 c4) (hb : Below w2.heap.size w2 w) :
    Calls Try.prog 10 #[.agg #[.int .i64 s, .int .i64 1, .slice A2 1 c2, .slice A3 1 c3, .slice A4 3 c4], .slice (some ⟨w.heap.size, 0, none⟩) 1 1] (w.alloc (.cells #[.int .i64 t] 3)) fun e w' =>
      e = .returned (.int .i64 nd) ∧ Below w.heap.size w w' := by
  have hC := lit_C [t] (by simp) (heap_alloc_new w (.cells #[.int .i64 t] 3))
  have hD := (h.below hb).below ((Below.refl _ _).alloc (Nat.le_refl _) (.cells #[.int .i64 t] 3))
  have hbb : ∀ w', Below (w.alloc (.cells #[.int .i64 t] 3)).heap.size (w.alloc (.cells #[.int .i64 t] 3)) w' → Below w.heap.size w w' := fun w' k => ((Below.refl _ _).alloc (Nat.le_refl _) _).trans (k.mono (by simp))
  rcases hh with ⟨rfl, rfl, rfl⟩ | ⟨e, rfl⟩
  · exact (nodes_one hD hC (Nat.le_refl _)).mono fun _ _ ⟨he, hk⟩ => ⟨he, hbb _ hk⟩
  · exact (nodes_bad hD hC (Nat.le_refl _) (by simp) (by rw [right_of]; simpa using fun h1 h2 => e ⟨h1, h2⟩)).mono fun _ _ ⟨he, hk⟩ => ⟨he, hbb _ hk⟩
end

set_option maxHeartbeats 40000000 in
set_option maxRecDepth 100000 in
theorem refuses_calls (s n t : Int) (w : World) : Calls Try.prog 3 #[.int .i64 s, .int .i64 n, .int .i64 t] w fun e w' => e = .returned (.bool true) ∧ Below w.heap.size w w' := by
  obtain ⟨m, hm, hm67⟩ := mask7 n
  go_enter Try.func3, Try.ntmps3
  go_wp2_with fail
  refine (speaks_calls _).mono ?_
  rintro e w1 ⟨rfl, hb1⟩
  have HB1 := Lib.hid hb1
  clear hb1
  go_wp2_with fail
  refine (doubles_at _).mono ?_
  rintro e w2 ⟨A2, c2, A3, c3, A4, c4, rfl, hD, hb2⟩
  have HD := Lib.hid hD
  have HB2 := Lib.hid (HB1.out.trans (hb2.mono HB1.out.size))
  clear hD hb2
  have HBP := Lib.hid (heap_alloc_new w2 (.cells #[.int .i64 s, .int .i64 1, .slice A2 1 c2, .slice A3 1 c3, .slice A4 3 c4] 26))
  by_cases hc : m ≤ 64
  · have d1 : wrap64 (60 + bits BinOp.and IntKind.i64 n 7) ≤ 64 := by omega
    clear hm
    have hsz : (w2.alloc (.cells #[.int .i64 s, .int .i64 1, .slice A2 1 c2, .slice A3 1 c3, .slice A4 3 c4] 26)).heap.size = w2.heap.size + 1 := by simp
    have X := fun (er : Int) hh => tree_letter s t er hh HD.out ((Below.refl w2.heap.size w2).alloc (Nat.le_refl _) (.cells #[.int .i64 s, .int .i64 1, .slice A2 1 c2, .slice A3 1 c3, .slice A4 3 c4] 26))
    rw [hsz] at X
    have Y := fun (nd : Int) hh (W : World) (hb : Below w2.heap.size w2 W) => nodes_letter s t nd hh HD.out hb
    rcases (show (s = 0 ∧ t = 0) ∨ (s ≠ 0) ∨ (s = 0 ∧ t ≠ 0) by omega) with ⟨hs, ht⟩ | h | ⟨hs, h⟩
    · subst hs
      subst ht
      have HX := Lib.hid (X 0 (.inl ⟨rfl, rfl, rfl⟩))
      have HY := Lib.hid (Y 2 (.inl ⟨rfl, rfl, rfl⟩))
      clear X Y hsz
      go_wp2_with fail
      refine HX.out.mono ?_
      rintro e w3 ⟨x, A, nn, c, rfl, hb3⟩
      have hb3' := (HB2.out.trans (((Below.refl w2.heap.size w2).alloc (Nat.le_refl _) (.cells #[.int .i64 _, .int .i64 1, .slice A2 1 c2, .slice A3 1 c3, .slice A4 3 c4] 26)).trans (hb3.mono (Nat.le_succ _)) |>.mono HB2.out.size))
      have HB3 := Lib.hid hb3'
      have HK3 := Lib.hid (((Below.refl w2.heap.size w2).alloc (Nat.le_refl _) (.cells #[.int .i64 _, .int .i64 1, .slice A2 1 c2, .slice A3 1 c3, .slice A4 3 c4] 26)).trans (hb3.mono (Nat.le_succ _)))
      have HP3 := Lib.hid ((hb3.block w2.heap.size (Nat.lt_succ_self _)).trans HBP.out)
      clear hb3 hb3'
      go_wp2_with (first | ((with_reducible refine gate_dst (N := 10) rfl ?_); refine box_event ?hg (N := 10) ?hd (cs := #[.int .i64 0, .slice none 0 0]) (t := 30) ?hr ?_; (case hd => rfl); (case hg => rfl); (case hr => first | (go_simp; done) | (go_simp; rfl)); intro gb hgb w4 hbox hb; have HXgb := Lib.hid hbox; have HGL : Hid (w2.heap.size < gb) := (by show w2.heap.size < gb; rw [hgb]; exact blk_lt HP3.out); have HB4 := Lib.hid (HB3.out.trans (hb.mono HB3.out.size)); have HK4 := Lib.hid (HK3.out.trans (hb.mono HK3.out.size)); have HP4 := Lib.hid ((hb.block w2.heap.size (blk_lt HP3.out)).trans HP3.out); have f0 := frozen_of_row w4 gb 0 _ _ hbox; have f1 := frozen_of_row w4 gb 1 _ _ hbox; have k0 := blk_cell hbox 0; have k1 := blk_cell hbox 1; have q0 := blk_cell HP4.out 0; have q1 := blk_cell HP4.out 1; have q2 := blk_cell HP4.out 2; have q3 := blk_cell HP4.out 3; have q4 := blk_cell HP4.out 4; have ne1 : ¬ gb = w2.heap.size := (fun e => Nat.ne_of_gt HGL.out e); have ne2 : ¬ w2.heap.size = gb := (fun e => Nat.ne_of_gt HGL.out e.symm); simp only [List.getElem?_toArray, List.getElem?_cons_zero, List.getElem?_cons_succ] at k0 k1 q0 q1 q2 q3 q4; clear hbox hb hgb))
      have Z := HY.out _ (below2 HK4.out (Nat.le_of_lt HGL.out) (.int .i64 x) (.slice A nn c))
      rw [size_two] at Z
      refine Z.mono ?_
      rintro e w6 ⟨rfl, hb6⟩
      have HB6 := Lib.hid ((below2 HB4.out (Nat.le_trans HB2.out.size (Nat.le_of_lt HGL.out)) (.int .i64 x) (.slice A nn c)).trans (hb6.mono HB4.out.size))
      clear Z
      clear hb6
      go_wp2_with fail
      go_ret
      exact ⟨rfl, HB6.out⟩
    · have HX := Lib.hid (X 1 (.inr ⟨fun e => h e.1, rfl⟩))
      have HY := Lib.hid (Y (-1) (.inr ⟨fun e => h e.1, rfl⟩))
      clear X Y hsz
      go_wp2_with fail
      refine HX.out.mono ?_
      rintro e w3 ⟨x, A, nn, c, rfl, hb3⟩
      have hb3' := (HB2.out.trans (((Below.refl w2.heap.size w2).alloc (Nat.le_refl _) (.cells #[.int .i64 _, .int .i64 1, .slice A2 1 c2, .slice A3 1 c3, .slice A4 3 c4] 26)).trans (hb3.mono (Nat.le_succ _)) |>.mono HB2.out.size))
      have HB3 := Lib.hid hb3'
      have HK3 := Lib.hid (((Below.refl w2.heap.size w2).alloc (Nat.le_refl _) (.cells #[.int .i64 _, .int .i64 1, .slice A2 1 c2, .slice A3 1 c3, .slice A4 3 c4] 26)).trans (hb3.mono (Nat.le_succ _)))
      have HP3 := Lib.hid ((hb3.block w2.heap.size (Nat.lt_succ_self _)).trans HBP.out)
      clear hb3 hb3'
      go_wp2_with (first | ((with_reducible refine gate_dst (N := 10) rfl ?_); refine box_event ?hg (N := 10) ?hd (cs := #[.int .i64 0, .slice none 0 0]) (t := 30) ?hr ?_; (case hd => rfl); (case hg => rfl); (case hr => first | (go_simp; done) | (go_simp; rfl)); intro gb hgb w4 hbox hb; have HXgb := Lib.hid hbox; have HGL : Hid (w2.heap.size < gb) := (by show w2.heap.size < gb; rw [hgb]; exact blk_lt HP3.out); have HB4 := Lib.hid (HB3.out.trans (hb.mono HB3.out.size)); have HK4 := Lib.hid (HK3.out.trans (hb.mono HK3.out.size)); have HP4 := Lib.hid ((hb.block w2.heap.size (blk_lt HP3.out)).trans HP3.out); have f0 := frozen_of_row w4 gb 0 _ _ hbox; have f1 := frozen_of_row w4 gb 1 _ _ hbox; have k0 := blk_cell hbox 0; have k1 := blk_cell hbox 1; have q0 := blk_cell HP4.out 0; have q1 := blk_cell HP4.out 1; have q2 := blk_cell HP4.out 2; have q3 := blk_cell HP4.out 3; have q4 := blk_cell HP4.out 4; have ne1 : ¬ gb = w2.heap.size := (fun e => Nat.ne_of_gt HGL.out e); have ne2 : ¬ w2.heap.size = gb := (fun e => Nat.ne_of_gt HGL.out e.symm); simp only [List.getElem?_toArray, List.getElem?_cons_zero, List.getElem?_cons_succ] at k0 k1 q0 q1 q2 q3 q4; clear hbox hb hgb))
      have Z := HY.out _ (below2 HK4.out (Nat.le_of_lt HGL.out) (.int .i64 x) (.slice A nn c))
      rw [size_two] at Z
      refine Z.mono ?_
      rintro e w6 ⟨rfl, hb6⟩
      have HB6 := Lib.hid ((below2 HB4.out (Nat.le_trans HB2.out.size (Nat.le_of_lt HGL.out)) (.int .i64 x) (.slice A nn c)).trans (hb6.mono HB4.out.size))
      clear Z
      clear hb6
      go_wp2_with fail
      go_ret
      exact ⟨rfl, HB6.out⟩
    · subst hs
      have HX := Lib.hid (X 1 (.inr ⟨fun e => h e.2, rfl⟩))
      have HY := Lib.hid (Y (-1) (.inr ⟨fun e => h e.2, rfl⟩))
      clear X Y hsz
      go_wp2_with fail
      refine HX.out.mono ?_
      rintro e w3 ⟨x, A, nn, c, rfl, hb3⟩
      have hb3' := (HB2.out.trans (((Below.refl w2.heap.size w2).alloc (Nat.le_refl _) (.cells #[.int .i64 _, .int .i64 1, .slice A2 1 c2, .slice A3 1 c3, .slice A4 3 c4] 26)).trans (hb3.mono (Nat.le_succ _)) |>.mono HB2.out.size))
      have HB3 := Lib.hid hb3'
      have HK3 := Lib.hid (((Below.refl w2.heap.size w2).alloc (Nat.le_refl _) (.cells #[.int .i64 _, .int .i64 1, .slice A2 1 c2, .slice A3 1 c3, .slice A4 3 c4] 26)).trans (hb3.mono (Nat.le_succ _)))
      have HP3 := Lib.hid ((hb3.block w2.heap.size (Nat.lt_succ_self _)).trans HBP.out)
      clear hb3 hb3'
      go_wp2_with (first | ((with_reducible refine gate_dst (N := 10) rfl ?_); refine box_event ?hg (N := 10) ?hd (cs := #[.int .i64 0, .slice none 0 0]) (t := 30) ?hr ?_; (case hd => rfl); (case hg => rfl); (case hr => first | (go_simp; done) | (go_simp; rfl)); intro gb hgb w4 hbox hb; have HXgb := Lib.hid hbox; have HGL : Hid (w2.heap.size < gb) := (by show w2.heap.size < gb; rw [hgb]; exact blk_lt HP3.out); have HB4 := Lib.hid (HB3.out.trans (hb.mono HB3.out.size)); have HK4 := Lib.hid (HK3.out.trans (hb.mono HK3.out.size)); have HP4 := Lib.hid ((hb.block w2.heap.size (blk_lt HP3.out)).trans HP3.out); have f0 := frozen_of_row w4 gb 0 _ _ hbox; have f1 := frozen_of_row w4 gb 1 _ _ hbox; have k0 := blk_cell hbox 0; have k1 := blk_cell hbox 1; have q0 := blk_cell HP4.out 0; have q1 := blk_cell HP4.out 1; have q2 := blk_cell HP4.out 2; have q3 := blk_cell HP4.out 3; have q4 := blk_cell HP4.out 4; have ne1 : ¬ gb = w2.heap.size := (fun e => Nat.ne_of_gt HGL.out e); have ne2 : ¬ w2.heap.size = gb := (fun e => Nat.ne_of_gt HGL.out e.symm); simp only [List.getElem?_toArray, List.getElem?_cons_zero, List.getElem?_cons_succ] at k0 k1 q0 q1 q2 q3 q4; clear hbox hb hgb))
      have Z := HY.out _ (below2 HK4.out (Nat.le_of_lt HGL.out) (.int .i64 x) (.slice A nn c))
      rw [size_two] at Z
      refine Z.mono ?_
      rintro e w6 ⟨rfl, hb6⟩
      have HB6 := Lib.hid ((below2 HB4.out (Nat.le_trans HB2.out.size (Nat.le_of_lt HGL.out)) (.int .i64 x) (.slice A nn c)).trans (hb6.mono HB4.out.size))
      clear Z
      clear hb6
      go_wp2_with fail
      go_ret
      exact ⟨rfl, HB6.out⟩
  · have d1 : 64 < wrap64 (60 + bits BinOp.and IntKind.i64 n 7) := by omega
    go_wp2_with fail
    clear d1
    rw [hm]
    clear hm
    have HB3 := Lib.hid (HB2.out.trans (((Below.refl w2.heap.size w2).alloc (Nat.le_refl _) (.cells #[.int .i64 s, .int .i64 1, .slice A2 1 c2, .slice A3 1 c3, .slice A4 3 c4] 26)).mono HB2.out.size))
    have h64 : 64 < m := by omega
    have h1000 : m ≤ 1000 := by omega
    have hmk := print_make (P := Try.prog) 34 3 .i64 8 Try.underlying34 info3 (by decide) m (by omega)
    clear HBP hc hm67 HD HB2
    generalize w2.alloc (.cells #[.int .i64 s, .int .i64 1, .slice A2 1 c2, .slice A3 1 c3, .slice A4 3 c4] 26) = w3 at HB3 ⊢
    have sz3 : w.heap.size ≤ w3.heap.size := HB3.out.size
    go_region_with (first
      | (go_at_call 8
         refine (doubles_at _).mono ?_
         rintro e w5 ⟨B2, d2, B3, d3, B4, d4, rfl, hD5, hb5⟩
         have HD5 := Lib.hid hD5
         have HB5 := Lib.hid (below_step (w := w) (by repeat (first | (with_reducible exact HB3.out) | (with_reducible apply below_alloc) | (with_reducible apply below_drew))) hb5)
         have sz5 : w.heap.size ≤ w5.heap.size := HB5.out.size
         try have HA5 := Lib.hid (keepblk (b := w3.heap.size) (o := .cells #[.int .i64 0, .slice none 0 0] 30 (0, 0)) hb5 (by first | exact heap_alloc_new _ _ | exact blk_alloc (heap_alloc_new _ _) _))
         try have HA6 := Lib.hid (keepblk (b := w3.heap.size + 1) (o := .cells #[.int .i64 0, .slice none 0 0] 30 (0, 0)) hb5 (by rw [show w3.heap.size + 1 = (w3.drew.alloc (.cells (madeCells #[.int .i64 0] m) 3)).heap.size from by simp]; exact heap_alloc_new _ _))
         clear hD5 hb5)
      | (go_at_call 9
         refine (tree_long (HD5.out.below (by repeat (first | (with_reducible exact Below.refl _ _) | (with_reducible apply below_alloc) | (with_reducible apply below_drew)))) h64 h1000).mono ?_
         rintro e w6 ⟨rfl, hb6⟩
         have HB6 := Lib.hid (below_step (w := w) (by repeat (first | (with_reducible exact HB5.out) | (with_reducible apply below_alloc) | (with_reducible apply below_drew))) hb6)
         have sz6 : w.heap.size ≤ w6.heap.size := HB6.out.size
         try have HZ := Lib.hid (keepblk (b := w3.heap.size) (o := .cells #[.int .i64 0, .slice none 0 0] 30 (0, 0)) hb6 (by first | exact HA5.out | exact blk_alloc HA5.out _))
         try have HZ := Lib.hid (keepblk (b := w3.heap.size + 1) (o := .cells #[.int .i64 0, .slice none 0 0] 30 (0, 0)) hb6 (by first | exact HA6.out | exact blk_alloc HA6.out _))
         try have HZ := Lib.hid (keepblk (b := w5.heap.size) (o := .cells #[.int .i64 0, .slice none 0 0] 30 (0, 0)) hb6 (by first | exact heap_alloc_new _ _ | exact blk_alloc (heap_alloc_new _ _) _))
         try have HZ := Lib.hid (keepblk (b := w5.heap.size + 1) (o := .cells #[.int .i64 0, .slice none 0 0] 30 (0, 0)) hb6 (by rw [show w5.heap.size + 1 = (w5.alloc (.cells (madeCells #[.int .i64 0] m) 3)).heap.size from by simp]; exact heap_alloc_new _ _))
         try have z0 := blk_cell HZ.out 0
         try have z1 := blk_cell HZ.out 1
         try have z2 := frozen_of_row w6 _ 0 _ _ HZ.out
         try have z3 := frozen_of_row w6 _ 1 _ _ HZ.out
         try simp only [List.getElem?_toArray, List.getElem?_cons_zero, List.getElem?_cons_succ] at z0 z1
         clear hb6))
    all_goals
      go_wp2_with fail
      go_region_with (first
        | (go_at_call 8
           refine (doubles_at _).mono ?_
           rintro e w7 ⟨C2, f2, C3, f3, C4, f4, rfl, hD7, hb7⟩
           have HD7 := Lib.hid hD7
           have HB7 := Lib.hid (below_step (w := w) (by repeat (first | (with_reducible exact HB6.out) | (with_reducible apply below_alloc) | (with_reducible apply below_drew) | refine below_set ?_ (by omega))) hb7)
           clear hD7 hb7)
        | (go_at_call 10
           refine (nodes_long (HD7.out.below (by repeat (first | (with_reducible exact Below.refl _ _) | (with_reducible apply below_alloc) | (with_reducible apply below_drew)))) h64 h1000).mono ?_
           rintro e w8 ⟨rfl, hb8⟩
           have HB8 := Lib.hid (below_step (w := w) (by repeat (first | (with_reducible exact HB7.out) | (with_reducible apply below_alloc) | (with_reducible apply below_drew))) hb8)
           clear hb8))
    all_goals
      go_wp2_with fail
      go_ret
      exact ⟨rfl, HB8.out⟩
end Go.Proofs.Ytnkpmogpmcggiaa
