/- speaks, walked. -/
import Derived.Test.YtnkpmogpmcggiaaLDouble
set_option linter.unusedVariables false
set_option linter.unusedSimpArgs false
namespace Go.Proofs.Ytnkpmogpmcggiaa
open Go.RowKit Go.Proofs.YtnkpmogpmcggiaaW.PrintWords Go.Proofs.YtnkpmogpmcggiaaW.PrintLast Go.Proofs.YtnkpmogpmcggiaaW.PrintMore

theorem below_lit {B : Nat} {w w1 : World} (h : Below B w w1) (hB : B ≤ w1.heap.size) (o : Obj) : Below B w (w1.alloc o) := h.alloc hB o

set_option maxHeartbeats 4000000 in
set_option maxRecDepth 100000 in
theorem speaks_calls (w : World) : Calls Try.prog 7 #[] w fun e w' => e = .returned (.bool true) ∧ Below w.heap.size w w' := by
  go_enter Try.func7, Try.ntmps7
  go_wp2_with fail
  refine (doubles_at _).mono ?_
  rintro e w1 ⟨A2, c2, A3, c3, A4, c4, rfl, hD, hb1⟩
  have HD := Lib.hid hD
  have HB1 := Lib.hid hb1
  clear hD hb1
  go_wp2_with fail
  refine (tree_two (HD.out.below ((Below.refl _ _).alloc (Nat.le_refl _) _)) (lit_C [0, 0] (by decide) (heap_alloc_new _ _)) (Nat.le_refl _)).mono ?_
  rintro e w2 ⟨A, c, rfl, hb2⟩
  have HB2 := Lib.hid (HB1.out.trans ((((Below.refl _ _).alloc (Nat.le_refl _) (.cells #[.int .i64 0, .int .i64 0] 3)).trans (hb2.mono (by simp))).mono HB1.out.size))
  clear hb2
  go_wp2_with (first | ((with_reducible refine gate_dst (N := 1) rfl ?_); refine box_event ?hg (N := 1) ?hd (cs := #[.int .i64 0, .slice none 0 0]) (t := 30) ?hr ?_; (case hd => rfl); (case hg => rfl); (case hr => first | (go_simp; done) | (go_simp; rfl)); intro gb hgb w3 hbox hb; have HXgb := Lib.hid hbox; have HB3 := Lib.hid (HB2.out.trans (hb.mono HB2.out.size)); have HGL : Hid (w.heap.size ≤ gb) := (by show w.heap.size ≤ gb; rw [hgb]; exact HB2.out.size); have f0 := frozen_of_row w3 gb 0 _ _ hbox; have f1 := frozen_of_row w3 gb 1 _ _ hbox; have k0 := blk_cell hbox 0; have k1 := blk_cell hbox 1; simp only [List.getElem?_toArray, List.getElem?_cons_zero, List.getElem?_cons_succ] at k0 k1; clear hbox hb hgb))
  have HB4 := Lib.hid (below2 HB3.out HGL.out (.int .i64 2) (.slice A 2 c))
  refine (doubles_at _).mono ?_
  rintro e w5 ⟨B2, d2, B3, d3, B4, d4, rfl, hD5, hb5⟩
  have HD5 := Lib.hid hD5
  have HB5 := Lib.hid (HB4.out.trans (hb5.mono HB4.out.size))
  clear hD5 hb5
  go_wp2_with fail
  refine (nodes_two (HD5.out.below ((Below.refl _ _).alloc (Nat.le_refl _) _)) (lit_C [0, 0] (by decide) (heap_alloc_new _ _)) (Nat.le_refl _)).mono ?_
  rintro e w6 ⟨rfl, hb6⟩
  have HB6 := Lib.hid (HB5.out.trans ((((Below.refl _ _).alloc (Nat.le_refl _) (.cells #[.int .i64 0, .int .i64 0] 3)).trans (hb6.mono (by simp))).mono HB5.out.size))
  clear hb6
  go_wp2_with fail
  go_ret
  exact ⟨rfl, HB6.out⟩
end Go.Proofs.Ytnkpmogpmcggiaa
