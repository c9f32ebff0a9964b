/- The grammars that the laws make out of raw numbers: the walk. Laid by a program over the words of the print; the regions that draw their order by hand. -/
import Derived.Test.YtnkpmogpmcggiaaMadeL
import Derived.Test.YtnkpmogpmcggiaaFresh
import Derived.Deep.RegionHeld3
import Derived.Lib.Hide
namespace Go.Proofs.Ytnkpmogpmcggiaa
open Go.RowKit Go.Proofs.YtnkpmogpmcggiaaW.PrintWords Go.Proofs.YtnkpmogpmcggiaaW.PrintLast Go.Proofs.YtnkpmogpmcggiaaW.PrintMore
attribute [local go_sem] max2_int min2_int max_two min_two max_three min_three max_four min_four   -- for this text's walks alone
set_option linter.unusedVariables false
set_option linter.unusedSimpArgs false

def primerlaw15_made.T24 : Bool × List (List Nat × List Nat) := (true, [([], []), ([0], [0]), ([], []), ([], []), ([], []), ([4], [4]), ([3, 5], [3, 5]), ([], []), ([], []), ([8], [8]), ([7, 9, 6], [7, 9]), ([1, 2, 6, 10], [1, 2, 6, 10]), ([], []), ([12, 11, 10, 0, 1, 2, 3, 4, 5, 6, 7, 8, 9, 10, 11, 12], [11, 12])])
def primerlaw15_made.B24 : List Nat := [0, 1, 0, 0, 0, 16, 56, 0, 0, 256, 1016, 2047, 0, 8191]
theorem primerlaw15_made.tab24 : rtab .any (opsOf Try.f12 24) = primerlaw15_made.T24 := by kernel_rfl
theorem primerlaw15_made.bits24 : waitsOk primerlaw15_made.T24.2 primerlaw15_made.B24 = true := by kernel_rfl
def primerlaw15_made.T28 : Bool × List (List Nat × List Nat) := (true, [([], []), ([0], [0]), ([], []), ([2], [2]), ([], []), ([3, 4], [3, 4]), ([5], [5]), ([6], [6]), ([], []), ([], []), ([9], [9]), ([], []), ([10, 11], [10, 11]), ([12], [12]), ([13], [13]), ([8, 14], [8, 14]), ([7, 15], [7, 15]), ([16], [16]), ([1, 17, 15], [1, 17]), ([0, 1, 2, 3, 4, 5, 6, 7, 8, 9, 10, 11, 12, 13, 14, 15, 16, 17, 18], []), ([19, 18, 18, 0, 1, 2, 3, 4, 5, 6, 7, 8, 9, 10, 11, 12, 13, 14, 15, 16, 17, 18], [18, 19])])
def primerlaw15_made.B28 : List Nat := [0, 1, 0, 4, 0, 28, 60, 124, 0, 0, 512, 0, 3584, 7680, 15872, 32512, 65532, 131068, 262143, 524287, 1048575]
theorem primerlaw15_made.tab28 : rtab .any (opsOf Try.f12 28) = primerlaw15_made.T28 := by kernel_rfl
theorem primerlaw15_made.bits28 : waitsOk primerlaw15_made.T28.2 primerlaw15_made.B28 = true := by kernel_rfl
def primerlaw15_made.T29 : Bool × List (List Nat × List Nat) := (true, [([], []), ([], []), ([0, 0], [0]), ([1, 2, 0, 1, 2], [1])])
def primerlaw15_made.B29 : List Nat := [0, 0, 1, 7]
theorem primerlaw15_made.tab29 : rtab .any (opsOf Try.f12 29) = primerlaw15_made.T29 := by kernel_rfl
theorem primerlaw15_made.bits29 : waitsOk primerlaw15_made.T29.2 primerlaw15_made.B29 = true := by kernel_rfl
set_option maxHeartbeats 40000000 in
set_option maxRecDepth 100000 in
theorem primerlaw15_made.calls (k : Nat) (a0_0 : Int) (a0_1 : Int) (a0_2 : Int) (A0_3 : Option Addr) (c0_3 : Nat) (l0_3 : List Int) (A0_4 : Option Addr) (c0_4 : Nat) (l0_4 : List (List Int)) (r1 : Int) (r2 : Int) (r3 : List ByteArray) (r4 : List ByteArray) (r5 : List (S39)) (r6 : Int) (r7 : Int) (r8 : List ByteArray) (r9 : List ByteArray) (r10 : List (S64)) (w : World) (hr0_3 : Kd.C (Kd.int .i64) w A0_3 l0_3.length l0_3) (hc0_3 : l0_3.length ≤ c0_3) (hr0_4 : Kd.C (Kd.slice 3 (Kd.int .i64)) w A0_4 l0_4.length l0_4) (hc0_4 : l0_4.length ≤ c0_4) (h : primerlaw15_made.f k a0_0 a0_1 a0_2 l0_3 l0_4 = some (r1, r2, r3, r4, r5, r6, r7, r8, r9, r10)) :
    Calls Try.prog 12 #[.agg #[.int .i64 a0_0, .int .i64 a0_1, .int .i64 a0_2, .slice A0_3 l0_3.length c0_3, .slice A0_4 l0_4.length c0_4]] w (MadePost w r1 r2 r3 r4 r5 r6 r7 r8 r9 r10) := by
  have hu45 := Try.underlying45
  have hu26 := Try.underlying26
  have hu48 := Try.underlying48
  have hu64 := Try.underlying64
  have hu39 := Try.underlying39
  have HR0_3 := Aside0.mk hr0_3
  have HC0_3 := Aside0.mk hc0_3
  clear hr0_3 hc0_3
  have HR0_4 := Aside0.mk hr0_4
  have HC0_4 := Aside0.mk hc0_4
  clear hr0_4 hc0_4
  have HB := Aside0.mk (Below.refl w.heap.size w)
  have H : (if (wrap64 (1 + (Go.bits .and .i64 a0_0 3))) = 0 then (none) else (primerlaw15_made.l0 k (wrap64 (1 + (Go.bits .and .i64 a0_0 3))) (Go.bits .and .i64 a0_1 3) 0 a0_0 a0_1 a0_2 l0_3 l0_4 (Int.tmod (wrap64 ((Int.tmod a0_2 (wrap64 (1 + (Go.bits .and .i64 a0_0 3)))) + (wrap64 (1 + (Go.bits .and .i64 a0_0 3))))) (wrap64 (1 + (Go.bits .and .i64 a0_0 3)))) (wrap64 (1 + (Go.bits .and .i64 a0_0 3))) ([] : List ByteArray))) = some (r1, r2, r3, r4, r5, r6, r7, r8, r9, r10) := h
  clear h
  by_cases c2 : (wrap64 (1 + (Go.bits .and .i64 a0_0 3))) = 0
  · rw [if_pos c2] at H
    exact absurd H (by simp)
  · rw [if_neg c2] at H
    have c2b0 : ((wrap64 (1 + (Go.bits .and .i64 a0_0 3))) == 0) = false := beq_eq_false_iff_ne.mpr c2
    have c2b1 : ((wrap64 (1 + (Go.bits .and .i64 a0_0 3))) != 0) = true := bne_iff_ne.mpr c2
    have H' := Aside0.mk H
    clear H
    go_enter Try.func12, Try.ntmps12
    go_wp2_with (first | ((with_reducible refine gate_dst (N := 1) rfl ?_); (try (refine gate_guard (by rfl) ?_; dsimp only)); refine box_event ?hg (N := 1) ?hd (cs := #[.int .i64 a0_0, .int .i64 a0_1, .int .i64 a0_2, .slice A0_3 l0_3.length c0_3, .slice A0_4 l0_4.length c0_4]) (t := 45) ?hr ?_; (case hd => rfl); (case hg => rfl); (case hr => first | (go_simp; done) | (go_simp; rfl)); intro gb229 hg w3 hbox hb; have n0_ := Aside0.mk (below_step (by repeat (first | (with_reducible first | exact HB.out | apply below_alloc | apply pw_below_drewN | apply below_drew1) | exact HB.out)) hb); have n1_ := Aside0.mk (hbox); have n2_ := Aside0.mk ((by rw [hg]; exact (below_size (by repeat (first | (with_reducible first | exact HB.out | apply below_alloc | apply pw_below_drewN | apply below_drew1) | exact HB.out))) : w.heap.size ≤ gb229)); have n3_ := Aside0.mk ((by rw [hg]; exact (below_size (by repeat (first | (with_reducible first | exact HB.out | apply below_alloc | apply pw_below_drewN | apply below_drew1) | exact HB.out))) : w.heap.size ≤ gb229)); clear HB; have HB := n0_; have BK229 := n1_; have GW229 := n2_; have GE229 := n3_; clear n0_ n1_ n2_ n3_; clear hb hbox hg) | ((with_reducible refine gate_dst (N := 2) rfl ?_); (try (refine gate_guard (by rfl) ?_; dsimp only)); refine box_event ?hg (N := 2) ?hd (cs := #[.int .i64 0, .int .i64 0, .slice none 0 0, .slice none 0 0, .slice none 0 0]) (t := 26) ?hr ?_; (case hd => rfl); (case hg => rfl); (case hr => first | (go_simp; done) | (go_simp; rfl)); intro gb230 hg w4 hbox hb; have n0_ := Aside0.mk (blk_below (g := gb229) (o := .cells #[.int .i64 a0_0, .int .i64 a0_1, .int .i64 a0_2, .slice A0_3 l0_3.length c0_3, .slice A0_4 l0_4.length c0_4] 45 (0, 0)) (by (with_reducible repeat (first | refine blk_drewN ?_ _ | refine blk_drew ?_ | refine blk_alloc ?_ _)); exact BK229.out) hb); have n1_ := Aside0.mk (below_step (by repeat (first | (with_reducible first | exact HB.out | apply below_alloc | apply pw_below_drewN | apply below_drew1 | refine below_set ?_ GE229.out) | exact HB.out)) hb); have n2_ := Aside0.mk (hbox); have n3_ := Aside0.mk ((by rw [hg]; exact (below_size (by repeat (first | (with_reducible first | exact HB.out | apply below_alloc | apply pw_below_drewN | apply below_drew1 | refine below_set ?_ GE229.out) | exact HB.out))) : w.heap.size ≤ gb230)); have n4_ := Aside0.mk ((by rw [hg]; exact (below_size (by repeat (first | (with_reducible first | exact HB.out | apply below_alloc | apply pw_below_drewN | apply below_drew1 | refine below_set ?_ GE229.out) | exact HB.out))) : w.heap.size ≤ gb230)); have n5_ := Aside0.mk ((by rw [hg]; exact Nat.ne_of_lt (blk_lt (g := gb229) (o := .cells #[.int .i64 a0_0, .int .i64 a0_1, .int .i64 a0_2, .slice A0_3 l0_3.length c0_3, .slice A0_4 l0_4.length c0_4] 45 (0, 0)) (by (with_reducible repeat (first | refine blk_drewN ?_ _ | refine blk_drew ?_ | refine blk_alloc ?_ _)); exact BK229.out)) : gb229 ≠ gb230)); have n6_ := Aside0.mk ((by rw [hg]; exact Nat.ne_of_gt (blk_lt (g := gb229) (o := .cells #[.int .i64 a0_0, .int .i64 a0_1, .int .i64 a0_2, .slice A0_3 l0_3.length c0_3, .slice A0_4 l0_4.length c0_4] 45 (0, 0)) (by (with_reducible repeat (first | refine blk_drewN ?_ _ | refine blk_drew ?_ | refine blk_alloc ?_ _)); exact BK229.out)) : gb230 ≠ gb229)); clear BK229; clear HB; have BK229 := n0_; have HB := n1_; have BK230 := n2_; have GW230 := n3_; have GE230 := n4_; have NB229_230 := n5_; have NB230_229 := n6_; clear n0_ n1_ n2_ n3_ n4_ n5_ n6_; clear hb hbox hg) | ((with_reducible refine gate_dst (N := 3) rfl ?_); (try (refine gate_guard (by rfl) ?_; dsimp only)); refine box_event ?hg (N := 3) ?hd (cs := #[.int .i64 0, .int .i64 0, .slice none 0 0, .slice none 0 0, .slice none 0 0]) (t := 48) ?hr ?_; (case hd => rfl); (case hg => rfl); (case hr => first | (go_simp; done) | (go_simp; rfl)); intro gb231 hg w5 hbox hb; have n0_ := Aside0.mk (blk_below (g := gb229) (o := .cells #[.int .i64 a0_0, .int .i64 a0_1, .int .i64 a0_2, .slice A0_3 l0_3.length c0_3, .slice A0_4 l0_4.length c0_4] 45 (0, 0)) (by (with_reducible repeat (first | refine blk_drewN ?_ _ | refine blk_drew ?_ | refine blk_alloc ?_ _)); exact BK229.out) hb); have n1_ := Aside0.mk (blk_below (g := gb230) (o := .cells #[.int .i64 0, .int .i64 0, .slice none 0 0, .slice none 0 0, .slice none 0 0] 26 (0, 0)) (by (with_reducible repeat (first | refine blk_drewN ?_ _ | refine blk_drew ?_ | refine blk_alloc ?_ _)); exact BK230.out) hb); have n2_ := Aside0.mk (below_step (by repeat (first | (with_reducible first | exact HB.out | apply below_alloc | apply pw_below_drewN | apply below_drew1 | refine below_set ?_ GE229.out | refine below_set ?_ GE230.out) | exact HB.out)) hb); have n3_ := Aside0.mk (hbox); have n4_ := Aside0.mk ((by rw [hg]; exact (below_size (by repeat (first | (with_reducible first | exact HB.out | apply below_alloc | apply pw_below_drewN | apply below_drew1 | refine below_set ?_ GE229.out | refine below_set ?_ GE230.out) | exact HB.out))) : w.heap.size ≤ gb231)); have n5_ := Aside0.mk ((by rw [hg]; exact (below_size (by repeat (first | (with_reducible first | exact HB.out | apply below_alloc | apply pw_below_drewN | apply below_drew1 | refine below_set ?_ GE229.out | refine below_set ?_ GE230.out) | exact HB.out))) : w.heap.size ≤ gb231)); have n6_ := Aside0.mk ((by rw [hg]; exact Nat.ne_of_lt (blk_lt (g := gb229) (o := .cells #[.int .i64 a0_0, .int .i64 a0_1, .int .i64 a0_2, .slice A0_3 l0_3.length c0_3, .slice A0_4 l0_4.length c0_4] 45 (0, 0)) (by (with_reducible repeat (first | refine blk_drewN ?_ _ | refine blk_drew ?_ | refine blk_alloc ?_ _)); exact BK229.out)) : gb229 ≠ gb231)); have n7_ := Aside0.mk ((by rw [hg]; exact Nat.ne_of_gt (blk_lt (g := gb229) (o := .cells #[.int .i64 a0_0, .int .i64 a0_1, .int .i64 a0_2, .slice A0_3 l0_3.length c0_3, .slice A0_4 l0_4.length c0_4] 45 (0, 0)) (by (with_reducible repeat (first | refine blk_drewN ?_ _ | refine blk_drew ?_ | refine blk_alloc ?_ _)); exact BK229.out)) : gb231 ≠ gb229)); have n8_ := Aside0.mk ((by rw [hg]; exact Nat.ne_of_lt (blk_lt (g := gb230) (o := .cells #[.int .i64 0, .int .i64 0, .slice none 0 0, .slice none 0 0, .slice none 0 0] 26 (0, 0)) (by (with_reducible repeat (first | refine blk_drewN ?_ _ | refine blk_drew ?_ | refine blk_alloc ?_ _)); exact BK230.out)) : gb230 ≠ gb231)); have n9_ := Aside0.mk ((by rw [hg]; exact Nat.ne_of_gt (blk_lt (g := gb230) (o := .cells #[.int .i64 0, .int .i64 0, .slice none 0 0, .slice none 0 0, .slice none 0 0] 26 (0, 0)) (by (with_reducible repeat (first | refine blk_drewN ?_ _ | refine blk_drew ?_ | refine blk_alloc ?_ _)); exact BK230.out)) : gb231 ≠ gb230)); clear BK229; clear BK230; clear HB; have BK229 := n0_; have BK230 := n1_; have HB := n2_; have BK231 := n3_; have GW231 := n4_; have GE231 := n5_; have NB229_231 := n6_; have NB231_229 := n7_; have NB230_231 := n8_; have NB231_230 := n9_; clear n0_ n1_ n2_ n3_ n4_ n5_ n6_ n7_ n8_ n9_; clear hb hbox hg; have hnb6 := NB229_230.out; have hnc6 := NB230_229.out; have hnb7 := NB229_231.out; have hnc7 := NB231_229.out; have hcz8_0 : w5.cell? ⟨gb229, 0, none⟩ = some (.int .i64 a0_0) := (blk_cell BK229.out 0).trans rfl; have hcz8_1 : w5.cell? ⟨gb229, 1, none⟩ = some (.int .i64 a0_1) := (blk_cell BK229.out 1).trans rfl; have hcz8_2 : w5.cell? ⟨gb229, 2, none⟩ = some (.int .i64 a0_2) := (blk_cell BK229.out 2).trans rfl; have hcz8_3 : w5.cell? ⟨gb229, 3, none⟩ = some (.slice A0_3 l0_3.length c0_3) := (blk_cell BK229.out 3).trans rfl; have hcz8_4 : w5.cell? ⟨gb229, 4, none⟩ = some (.slice A0_4 l0_4.length c0_4) := (blk_cell BK229.out 4).trans rfl; have hfz8_0 := blk_frozen BK229.out 0; have hfz8_1 := blk_frozen BK229.out 1; have hfz8_2 := blk_frozen BK229.out 2; have hfz8_3 := blk_frozen BK229.out 3; have hfz8_4 := blk_frozen BK229.out 4) | ((with_reducible refine gate_dst (N := 6) rfl ?_); (try (refine gate_guard (by rfl) ?_; dsimp only)); refine box_event ?hg (N := 6) ?hd (cs := #[.int .i64 0, .int .i64 0, .slice none 0 0, .slice none 0 0, .slice none 0 0]) (t := 48) ?hr ?_; (case hd => rfl); (case hg => rfl); (case hr => first | (go_simp; done) | (go_simp; rfl)); intro gb232 hg w9 hbox hb; have n0_ := Aside0.mk (blk_below (g := gb229) (o := .cells #[.int .i64 a0_0, .int .i64 a0_1, .int .i64 a0_2, .slice A0_3 l0_3.length c0_3, .slice A0_4 l0_4.length c0_4] 45 (0, 0)) (by (with_reducible repeat (first | refine blk_drewN ?_ _ | refine blk_drew ?_ | refine blk_alloc ?_ _)); exact BK229.out) hb); have n1_ := Aside0.mk (blk_below (g := gb230) (o := .cells #[.int .i64 0, .int .i64 0, .slice none 0 0, .slice none 0 0, .slice none 0 0] 26 (0, 0)) (by (with_reducible repeat (first | refine blk_drewN ?_ _ | refine blk_drew ?_ | refine blk_alloc ?_ _)); exact BK230.out) hb); have n2_ := Aside0.mk (blk_below (g := gb231) (o := .cells #[.int .i64 0, .int .i64 0, .slice none 0 0, .slice none 0 0, .slice none 0 0] 48 (0, 0)) (by (with_reducible repeat (first | refine blk_drewN ?_ _ | refine blk_drew ?_ | refine blk_alloc ?_ _)); exact BK231.out) hb); have n3_ := Aside0.mk (below_step (by repeat (first | (with_reducible first | exact HB.out | apply below_alloc | apply pw_below_drewN | apply below_drew1 | refine below_set ?_ GE229.out | refine below_set ?_ GE230.out | refine below_set ?_ GE231.out) | exact HB.out)) hb); have n4_ := Aside0.mk (hbox); have n5_ := Aside0.mk ((by rw [hg]; exact (below_size (by repeat (first | (with_reducible first | exact HB.out | apply below_alloc | apply pw_below_drewN | apply below_drew1 | refine below_set ?_ GE229.out | refine below_set ?_ GE230.out | refine below_set ?_ GE231.out) | exact HB.out))) : w.heap.size ≤ gb232)); have n6_ := Aside0.mk ((by rw [hg]; exact (below_size (by repeat (first | (with_reducible first | exact HB.out | apply below_alloc | apply pw_below_drewN | apply below_drew1 | refine below_set ?_ GE229.out | refine below_set ?_ GE230.out | refine below_set ?_ GE231.out) | exact HB.out))) : w.heap.size ≤ gb232)); have n7_ := Aside0.mk ((by rw [hg]; exact Nat.ne_of_lt (blk_lt (g := gb229) (o := .cells #[.int .i64 a0_0, .int .i64 a0_1, .int .i64 a0_2, .slice A0_3 l0_3.length c0_3, .slice A0_4 l0_4.length c0_4] 45 (0, 0)) (by (with_reducible repeat (first | refine blk_drewN ?_ _ | refine blk_drew ?_ | refine blk_alloc ?_ _)); exact BK229.out)) : gb229 ≠ gb232)); have n8_ := Aside0.mk ((by rw [hg]; exact Nat.ne_of_gt (blk_lt (g := gb229) (o := .cells #[.int .i64 a0_0, .int .i64 a0_1, .int .i64 a0_2, .slice A0_3 l0_3.length c0_3, .slice A0_4 l0_4.length c0_4] 45 (0, 0)) (by (with_reducible repeat (first | refine blk_drewN ?_ _ | refine blk_drew ?_ | refine blk_alloc ?_ _)); exact BK229.out)) : gb232 ≠ gb229)); have n9_ := Aside0.mk ((by rw [hg]; exact Nat.ne_of_lt (blk_lt (g := gb230) (o := .cells #[.int .i64 0, .int .i64 0, .slice none 0 0, .slice none 0 0, .slice none 0 0] 26 (0, 0)) (by (with_reducible repeat (first | refine blk_drewN ?_ _ | refine blk_drew ?_ | refine blk_alloc ?_ _)); exact BK230.out)) : gb230 ≠ gb232)); have n10_ := Aside0.mk ((by rw [hg]; exact Nat.ne_of_gt (blk_lt (g := gb230) (o := .cells #[.int .i64 0, .int .i64 0, .slice none 0 0, .slice none 0 0, .slice none 0 0] 26 (0, 0)) (by (with_reducible repeat (first | refine blk_drewN ?_ _ | refine blk_drew ?_ | refine blk_alloc ?_ _)); exact BK230.out)) : gb232 ≠ gb230)); have n11_ := Aside0.mk ((by rw [hg]; exact Nat.ne_of_lt (blk_lt (g := gb231) (o := .cells #[.int .i64 0, .int .i64 0, .slice none 0 0, .slice none 0 0, .slice none 0 0] 48 (0, 0)) (by (with_reducible repeat (first | refine blk_drewN ?_ _ | refine blk_drew ?_ | refine blk_alloc ?_ _)); exact BK231.out)) : gb231 ≠ gb232)); have n12_ := Aside0.mk ((by rw [hg]; exact Nat.ne_of_gt (blk_lt (g := gb231) (o := .cells #[.int .i64 0, .int .i64 0, .slice none 0 0, .slice none 0 0, .slice none 0 0] 48 (0, 0)) (by (with_reducible repeat (first | refine blk_drewN ?_ _ | refine blk_drew ?_ | refine blk_alloc ?_ _)); exact BK231.out)) : gb232 ≠ gb231)); clear BK229; clear BK230; clear BK231; clear HB; have BK229 := n0_; have BK230 := n1_; have BK231 := n2_; have HB := n3_; have BK232 := n4_; have GW232 := n5_; have GE232 := n6_; have NB229_232 := n7_; have NB232_229 := n8_; have NB230_232 := n9_; have NB232_230 := n10_; have NB231_232 := n11_; have NB232_231 := n12_; clear n0_ n1_ n2_ n3_ n4_ n5_ n6_ n7_ n8_ n9_ n10_ n11_ n12_; clear hb hbox hg; have hnb10 := NB232_229.out; have hnc10 := NB229_232.out; have hnb11 := NB232_230.out; have hnc11 := NB230_232.out; have hnb12 := NB232_231.out; have hnc12 := NB231_232.out; have hcz13_0 : w9.cell? ⟨gb232, 0, none⟩ = some (.int .i64 0) := (blk_cell BK232.out 0).trans rfl; have hcz13_1 : w9.cell? ⟨gb232, 1, none⟩ = some (.int .i64 0) := (blk_cell BK232.out 1).trans rfl; have hcz13_2 : w9.cell? ⟨gb232, 2, none⟩ = some (.slice none 0 0) := (blk_cell BK232.out 2).trans rfl; have hcz13_3 : w9.cell? ⟨gb232, 3, none⟩ = some (.slice none 0 0) := (blk_cell BK232.out 3).trans rfl; have hcz13_4 : w9.cell? ⟨gb232, 4, none⟩ = some (.slice none 0 0) := (blk_cell BK232.out 4).trans rfl; have hfz13_0 := blk_frozen BK232.out 0; have hfz13_1 := blk_frozen BK232.out 1; have hfz13_2 := blk_frozen BK232.out 2; have hfz13_3 := blk_frozen BK232.out 3; have hfz13_4 := blk_frozen BK232.out 4))
    repeat (go_quiet (fail); try go_wp2_with (first | ((with_reducible refine gate_dst (N := 1) rfl ?_); (try (refine gate_guard (by rfl) ?_; dsimp only)); refine box_event ?hg (N := 1) ?hd (cs := #[.int .i64 a0_0, .int .i64 a0_1, .int .i64 a0_2, .slice A0_3 l0_3.length c0_3, .slice A0_4 l0_4.length c0_4]) (t := 45) ?hr ?_; (case hd => rfl); (case hg => rfl); (case hr => first | (go_simp; done) | (go_simp; rfl)); intro gb229 hg w3 hbox hb; have n0_ := Aside0.mk (below_step (by repeat (first | (with_reducible first | exact HB.out | apply below_alloc | apply pw_below_drewN | apply below_drew1) | exact HB.out)) hb); have n1_ := Aside0.mk (hbox); have n2_ := Aside0.mk ((by rw [hg]; exact (below_size (by repeat (first | (with_reducible first | exact HB.out | apply below_alloc | apply pw_below_drewN | apply below_drew1) | exact HB.out))) : w.heap.size ≤ gb229)); have n3_ := Aside0.mk ((by rw [hg]; exact (below_size (by repeat (first | (with_reducible first | exact HB.out | apply below_alloc | apply pw_below_drewN | apply below_drew1) | exact HB.out))) : w.heap.size ≤ gb229)); clear HB; have HB := n0_; have BK229 := n1_; have GW229 := n2_; have GE229 := n3_; clear n0_ n1_ n2_ n3_; clear hb hbox hg) | ((with_reducible refine gate_dst (N := 2) rfl ?_); (try (refine gate_guard (by rfl) ?_; dsimp only)); refine box_event ?hg (N := 2) ?hd (cs := #[.int .i64 0, .int .i64 0, .slice none 0 0, .slice none 0 0, .slice none 0 0]) (t := 26) ?hr ?_; (case hd => rfl); (case hg => rfl); (case hr => first | (go_simp; done) | (go_simp; rfl)); intro gb230 hg w4 hbox hb; have n0_ := Aside0.mk (blk_below (g := gb229) (o := .cells #[.int .i64 a0_0, .int .i64 a0_1, .int .i64 a0_2, .slice A0_3 l0_3.length c0_3, .slice A0_4 l0_4.length c0_4] 45 (0, 0)) (by (with_reducible repeat (first | refine blk_drewN ?_ _ | refine blk_drew ?_ | refine blk_alloc ?_ _)); exact BK229.out) hb); have n1_ := Aside0.mk (below_step (by repeat (first | (with_reducible first | exact HB.out | apply below_alloc | apply pw_below_drewN | apply below_drew1 | refine below_set ?_ GE229.out) | exact HB.out)) hb); have n2_ := Aside0.mk (hbox); have n3_ := Aside0.mk ((by rw [hg]; exact (below_size (by repeat (first | (with_reducible first | exact HB.out | apply below_alloc | apply pw_below_drewN | apply below_drew1 | refine below_set ?_ GE229.out) | exact HB.out))) : w.heap.size ≤ gb230)); have n4_ := Aside0.mk ((by rw [hg]; exact (below_size (by repeat (first | (with_reducible first | exact HB.out | apply below_alloc | apply pw_below_drewN | apply below_drew1 | refine below_set ?_ GE229.out) | exact HB.out))) : w.heap.size ≤ gb230)); have n5_ := Aside0.mk ((by rw [hg]; exact Nat.ne_of_lt (blk_lt (g := gb229) (o := .cells #[.int .i64 a0_0, .int .i64 a0_1, .int .i64 a0_2, .slice A0_3 l0_3.length c0_3, .slice A0_4 l0_4.length c0_4] 45 (0, 0)) (by (with_reducible repeat (first | refine blk_drewN ?_ _ | refine blk_drew ?_ | refine blk_alloc ?_ _)); exact BK229.out)) : gb229 ≠ gb230)); have n6_ := Aside0.mk ((by rw [hg]; exact Nat.ne_of_gt (blk_lt (g := gb229) (o := .cells #[.int .i64 a0_0, .int .i64 a0_1, .int .i64 a0_2, .slice A0_3 l0_3.length c0_3, .slice A0_4 l0_4.length c0_4] 45 (0, 0)) (by (with_reducible repeat (first | refine blk_drewN ?_ _ | refine blk_drew ?_ | refine blk_alloc ?_ _)); exact BK229.out)) : gb230 ≠ gb229)); clear BK229; clear HB; have BK229 := n0_; have HB := n1_; have BK230 := n2_; have GW230 := n3_; have GE230 := n4_; have NB229_230 := n5_; have NB230_229 := n6_; clear n0_ n1_ n2_ n3_ n4_ n5_ n6_; clear hb hbox hg) | ((with_reducible refine gate_dst (N := 3) rfl ?_); (try (refine gate_guard (by rfl) ?_; dsimp only)); refine box_event ?hg (N := 3) ?hd (cs := #[.int .i64 0, .int .i64 0, .slice none 0 0, .slice none 0 0, .slice none 0 0]) (t := 48) ?hr ?_; (case hd => rfl); (case hg => rfl); (case hr => first | (go_simp; done) | (go_simp; rfl)); intro gb231 hg w5 hbox hb; have n0_ := Aside0.mk (blk_below (g := gb229) (o := .cells #[.int .i64 a0_0, .int .i64 a0_1, .int .i64 a0_2, .slice A0_3 l0_3.length c0_3, .slice A0_4 l0_4.length c0_4] 45 (0, 0)) (by (with_reducible repeat (first | refine blk_drewN ?_ _ | refine blk_drew ?_ | refine blk_alloc ?_ _)); exact BK229.out) hb); have n1_ := Aside0.mk (blk_below (g := gb230) (o := .cells #[.int .i64 0, .int .i64 0, .slice none 0 0, .slice none 0 0, .slice none 0 0] 26 (0, 0)) (by (with_reducible repeat (first | refine blk_drewN ?_ _ | refine blk_drew ?_ | refine blk_alloc ?_ _)); exact BK230.out) hb); have n2_ := Aside0.mk (below_step (by repeat (first | (with_reducible first | exact HB.out | apply below_alloc | apply pw_below_drewN | apply below_drew1 | refine below_set ?_ GE229.out | refine below_set ?_ GE230.out) | exact HB.out)) hb); have n3_ := Aside0.mk (hbox); have n4_ := Aside0.mk ((by rw [hg]; exact (below_size (by repeat (first | (with_reducible first | exact HB.out | apply below_alloc | apply pw_below_drewN | apply below_drew1 | refine below_set ?_ GE229.out | refine below_set ?_ GE230.out) | exact HB.out))) : w.heap.size ≤ gb231)); have n5_ := Aside0.mk ((by rw [hg]; exact (below_size (by repeat (first | (with_reducible first | exact HB.out | apply below_alloc | apply pw_below_drewN | apply below_drew1 | refine below_set ?_ GE229.out | refine below_set ?_ GE230.out) | exact HB.out))) : w.heap.size ≤ gb231)); have n6_ := Aside0.mk ((by rw [hg]; exact Nat.ne_of_lt (blk_lt (g := gb229) (o := .cells #[.int .i64 a0_0, .int .i64 a0_1, .int .i64 a0_2, .slice A0_3 l0_3.length c0_3, .slice A0_4 l0_4.length c0_4] 45 (0, 0)) (by (with_reducible repeat (first | refine blk_drewN ?_ _ | refine blk_drew ?_ | refine blk_alloc ?_ _)); exact BK229.out)) : gb229 ≠ gb231)); have n7_ := Aside0.mk ((by rw [hg]; exact Nat.ne_of_gt (blk_lt (g := gb229) (o := .cells #[.int .i64 a0_0, .int .i64 a0_1, .int .i64 a0_2, .slice A0_3 l0_3.length c0_3, .slice A0_4 l0_4.length c0_4] 45 (0, 0)) (by (with_reducible repeat (first | refine blk_drewN ?_ _ | refine blk_drew ?_ | refine blk_alloc ?_ _)); exact BK229.out)) : gb231 ≠ gb229)); have n8_ := Aside0.mk ((by rw [hg]; exact Nat.ne_of_lt (blk_lt (g := gb230) (o := .cells #[.int .i64 0, .int .i64 0, .slice none 0 0, .slice none 0 0, .slice none 0 0] 26 (0, 0)) (by (with_reducible repeat (first | refine blk_drewN ?_ _ | refine blk_drew ?_ | refine blk_alloc ?_ _)); exact BK230.out)) : gb230 ≠ gb231)); have n9_ := Aside0.mk ((by rw [hg]; exact Nat.ne_of_gt (blk_lt (g := gb230) (o := .cells #[.int .i64 0, .int .i64 0, .slice none 0 0, .slice none 0 0, .slice none 0 0] 26 (0, 0)) (by (with_reducible repeat (first | refine blk_drewN ?_ _ | refine blk_drew ?_ | refine blk_alloc ?_ _)); exact BK230.out)) : gb231 ≠ gb230)); clear BK229; clear BK230; clear HB; have BK229 := n0_; have BK230 := n1_; have HB := n2_; have BK231 := n3_; have GW231 := n4_; have GE231 := n5_; have NB229_231 := n6_; have NB231_229 := n7_; have NB230_231 := n8_; have NB231_230 := n9_; clear n0_ n1_ n2_ n3_ n4_ n5_ n6_ n7_ n8_ n9_; clear hb hbox hg; have hnb6 := NB229_230.out; have hnc6 := NB230_229.out; have hnb7 := NB229_231.out; have hnc7 := NB231_229.out; have hcz8_0 : w5.cell? ⟨gb229, 0, none⟩ = some (.int .i64 a0_0) := (blk_cell BK229.out 0).trans rfl; have hcz8_1 : w5.cell? ⟨gb229, 1, none⟩ = some (.int .i64 a0_1) := (blk_cell BK229.out 1).trans rfl; have hcz8_2 : w5.cell? ⟨gb229, 2, none⟩ = some (.int .i64 a0_2) := (blk_cell BK229.out 2).trans rfl; have hcz8_3 : w5.cell? ⟨gb229, 3, none⟩ = some (.slice A0_3 l0_3.length c0_3) := (blk_cell BK229.out 3).trans rfl; have hcz8_4 : w5.cell? ⟨gb229, 4, none⟩ = some (.slice A0_4 l0_4.length c0_4) := (blk_cell BK229.out 4).trans rfl; have hfz8_0 := blk_frozen BK229.out 0; have hfz8_1 := blk_frozen BK229.out 1; have hfz8_2 := blk_frozen BK229.out 2; have hfz8_3 := blk_frozen BK229.out 3; have hfz8_4 := blk_frozen BK229.out 4) | ((with_reducible refine gate_dst (N := 6) rfl ?_); (try (refine gate_guard (by rfl) ?_; dsimp only)); refine box_event ?hg (N := 6) ?hd (cs := #[.int .i64 0, .int .i64 0, .slice none 0 0, .slice none 0 0, .slice none 0 0]) (t := 48) ?hr ?_; (case hd => rfl); (case hg => rfl); (case hr => first | (go_simp; done) | (go_simp; rfl)); intro gb232 hg w9 hbox hb; have n0_ := Aside0.mk (blk_below (g := gb229) (o := .cells #[.int .i64 a0_0, .int .i64 a0_1, .int .i64 a0_2, .slice A0_3 l0_3.length c0_3, .slice A0_4 l0_4.length c0_4] 45 (0, 0)) (by (with_reducible repeat (first | refine blk_drewN ?_ _ | refine blk_drew ?_ | refine blk_alloc ?_ _)); exact BK229.out) hb); have n1_ := Aside0.mk (blk_below (g := gb230) (o := .cells #[.int .i64 0, .int .i64 0, .slice none 0 0, .slice none 0 0, .slice none 0 0] 26 (0, 0)) (by (with_reducible repeat (first | refine blk_drewN ?_ _ | refine blk_drew ?_ | refine blk_alloc ?_ _)); exact BK230.out) hb); have n2_ := Aside0.mk (blk_below (g := gb231) (o := .cells #[.int .i64 0, .int .i64 0, .slice none 0 0, .slice none 0 0, .slice none 0 0] 48 (0, 0)) (by (with_reducible repeat (first | refine blk_drewN ?_ _ | refine blk_drew ?_ | refine blk_alloc ?_ _)); exact BK231.out) hb); have n3_ := Aside0.mk (below_step (by repeat (first | (with_reducible first | exact HB.out | apply below_alloc | apply pw_below_drewN | apply below_drew1 | refine below_set ?_ GE229.out | refine below_set ?_ GE230.out | refine below_set ?_ GE231.out) | exact HB.out)) hb); have n4_ := Aside0.mk (hbox); have n5_ := Aside0.mk ((by rw [hg]; exact (below_size (by repeat (first | (with_reducible first | exact HB.out | apply below_alloc | apply pw_below_drewN | apply below_drew1 | refine below_set ?_ GE229.out | refine below_set ?_ GE230.out | refine below_set ?_ GE231.out) | exact HB.out))) : w.heap.size ≤ gb232)); have n6_ := Aside0.mk ((by rw [hg]; exact (below_size (by repeat (first | (with_reducible first | exact HB.out | apply below_alloc | apply pw_below_drewN | apply below_drew1 | refine below_set ?_ GE229.out | refine below_set ?_ GE230.out | refine below_set ?_ GE231.out) | exact HB.out))) : w.heap.size ≤ gb232)); have n7_ := Aside0.mk ((by rw [hg]; exact Nat.ne_of_lt (blk_lt (g := gb229) (o := .cells #[.int .i64 a0_0, .int .i64 a0_1, .int .i64 a0_2, .slice A0_3 l0_3.length c0_3, .slice A0_4 l0_4.length c0_4] 45 (0, 0)) (by (with_reducible repeat (first | refine blk_drewN ?_ _ | refine blk_drew ?_ | refine blk_alloc ?_ _)); exact BK229.out)) : gb229 ≠ gb232)); have n8_ := Aside0.mk ((by rw [hg]; exact Nat.ne_of_gt (blk_lt (g := gb229) (o := .cells #[.int .i64 a0_0, .int .i64 a0_1, .int .i64 a0_2, .slice A0_3 l0_3.length c0_3, .slice A0_4 l0_4.length c0_4] 45 (0, 0)) (by (with_reducible repeat (first | refine blk_drewN ?_ _ | refine blk_drew ?_ | refine blk_alloc ?_ _)); exact BK229.out)) : gb232 ≠ gb229)); have n9_ := Aside0.mk ((by rw [hg]; exact Nat.ne_of_lt (blk_lt (g := gb230) (o := .cells #[.int .i64 0, .int .i64 0, .slice none 0 0, .slice none 0 0, .slice none 0 0] 26 (0, 0)) (by (with_reducible repeat (first | refine blk_drewN ?_ _ | refine blk_drew ?_ | refine blk_alloc ?_ _)); exact BK230.out)) : gb230 ≠ gb232)); have n10_ := Aside0.mk ((by rw [hg]; exact Nat.ne_of_gt (blk_lt (g := gb230) (o := .cells #[.int .i64 0, .int .i64 0, .slice none 0 0, .slice none 0 0, .slice none 0 0] 26 (0, 0)) (by (with_reducible repeat (first | refine blk_drewN ?_ _ | refine blk_drew ?_ | refine blk_alloc ?_ _)); exact BK230.out)) : gb232 ≠ gb230)); have n11_ := Aside0.mk ((by rw [hg]; exact Nat.ne_of_lt (blk_lt (g := gb231) (o := .cells #[.int .i64 0, .int .i64 0, .slice none 0 0, .slice none 0 0, .slice none 0 0] 48 (0, 0)) (by (with_reducible repeat (first | refine blk_drewN ?_ _ | refine blk_drew ?_ | refine blk_alloc ?_ _)); exact BK231.out)) : gb231 ≠ gb232)); have n12_ := Aside0.mk ((by rw [hg]; exact Nat.ne_of_gt (blk_lt (g := gb231) (o := .cells #[.int .i64 0, .int .i64 0, .slice none 0 0, .slice none 0 0, .slice none 0 0] 48 (0, 0)) (by (with_reducible repeat (first | refine blk_drewN ?_ _ | refine blk_drew ?_ | refine blk_alloc ?_ _)); exact BK231.out)) : gb232 ≠ gb231)); clear BK229; clear BK230; clear BK231; clear HB; have BK229 := n0_; have BK230 := n1_; have BK231 := n2_; have HB := n3_; have BK232 := n4_; have GW232 := n5_; have GE232 := n6_; have NB229_232 := n7_; have NB232_229 := n8_; have NB230_232 := n9_; have NB232_230 := n10_; have NB231_232 := n11_; have NB232_231 := n12_; clear n0_ n1_ n2_ n3_ n4_ n5_ n6_ n7_ n8_ n9_ n10_ n11_ n12_; clear hb hbox hg; have hnb10 := NB232_229.out; have hnc10 := NB229_232.out; have hnb11 := NB232_230.out; have hnc11 := NB230_232.out; have hnb12 := NB232_231.out; have hnc12 := NB231_232.out; have hcz13_0 : w9.cell? ⟨gb232, 0, none⟩ = some (.int .i64 0) := (blk_cell BK232.out 0).trans rfl; have hcz13_1 : w9.cell? ⟨gb232, 1, none⟩ = some (.int .i64 0) := (blk_cell BK232.out 1).trans rfl; have hcz13_2 : w9.cell? ⟨gb232, 2, none⟩ = some (.slice none 0 0) := (blk_cell BK232.out 2).trans rfl; have hcz13_3 : w9.cell? ⟨gb232, 3, none⟩ = some (.slice none 0 0) := (blk_cell BK232.out 3).trans rfl; have hcz13_4 : w9.cell? ⟨gb232, 4, none⟩ = some (.slice none 0 0) := (blk_cell BK232.out 4).trans rfl; have hfz13_0 := blk_frozen BK232.out 0; have hfz13_1 := blk_frozen BK232.out 1; have hfz13_2 := blk_frozen BK232.out 2; have hfz13_3 := blk_frozen BK232.out 3; have hfz13_4 := blk_frozen BK232.out 4)))
    go_loopg [7] k (fun kq v7 w' => ∃ (x7_1 : Int) (x233002_1 : List ByteArray) (u233002 : Value), v7 = .int .i64 x7_1 ∧ Aside0 (primerlaw15_made.l0 kq (wrap64 (1 + (Go.bits .and .i64 a0_0 3))) (Go.bits .and .i64 a0_1 3) x7_1 a0_0 a0_1 a0_2 l0_3 l0_4 (Int.tmod (wrap64 ((Int.tmod a0_2 (wrap64 (1 + (Go.bits .and .i64 a0_0 3)))) + (wrap64 (1 + (Go.bits .and .i64 a0_0 3))))) (wrap64 (1 + (Go.bits .and .i64 a0_0 3)))) (wrap64 (1 + (Go.bits .and .i64 a0_0 3))) x233002_1 = some (r1, r2, r3, r4, r5, r6, r7, r8, r9, r10)) ∧ Aside0 (kq ≤ k) ∧ Aside0 (Kd.R Kd.string 9 w' w.heap.size (fun _ => True) u233002 x233002_1) ∧ Aside0 (w'.heap[gb229]? = some (.cells #[.int .i64 a0_0, .int .i64 a0_1, .int .i64 a0_2, (.slice A0_3 l0_3.length c0_3), (.slice A0_4 l0_4.length c0_4)] 45 (0, 0))) ∧ Aside0 (w'.heap[gb230]? = some (.cells #[.int .i64 0, .int .i64 0, (.slice none 0 0), (.slice none 0 0), (.slice none 0 0)] 26 (0, 0))) ∧ Aside0 (w'.heap[gb231]? = some (.cells #[.int .i64 0, .int .i64 0, (.slice none 0 0), (.slice none 0 0), (.slice none 0 0)] 48 (0, 0))) ∧ Aside0 (w'.heap[gb232]? = some (.cells #[.int .i64 (Int.tmod (wrap64 ((Int.tmod a0_2 (wrap64 (1 + (Go.bits .and .i64 a0_0 3)))) + (wrap64 (1 + (Go.bits .and .i64 a0_0 3))))) (wrap64 (1 + (Go.bits .and .i64 a0_0 3)))), .int .i64 (wrap64 (1 + (Go.bits .and .i64 a0_0 3))), u233002, (.slice none 0 0), (.slice none 0 0)] 48 (0, 0))) ∧ Aside0 (Below w.heap.size w w'))
    case atStart => exact ⟨(0), (([] : List ByteArray)), (.slice none 0 0), (by first | rfl | (simp; done) | (simp [*]; done)), H', ⟨Nat.le_refl _⟩, ⟨by first | exact Kd.R_nil _ _ _ _ _ | exact Kd.N_nil _ _ _ _ _ | exact Kd.V_nil _ _ _ _ _ | exact Kd.Q_nil _ _ _ _ _ | exact Kd.S_nil _ _ _ _ _⟩, ⟨by (with_reducible repeat (first | refine blk_drewN ?_ _ | refine blk_drew ?_ | refine blk_alloc ?_ _)); refine blk_far ?_ NB229_232.out _; (with_reducible repeat (first | refine blk_drewN ?_ _ | refine blk_drew ?_ | refine blk_alloc ?_ _)); refine blk_far ?_ NB229_232.out _; (with_reducible repeat (first | refine blk_drewN ?_ _ | refine blk_drew ?_ | refine blk_alloc ?_ _)); refine blk_far ?_ NB229_232.out _; (with_reducible repeat (first | refine blk_drewN ?_ _ | refine blk_drew ?_ | refine blk_alloc ?_ _)); refine blk_far ?_ NB229_232.out _; (with_reducible repeat (first | refine blk_drewN ?_ _ | refine blk_drew ?_ | refine blk_alloc ?_ _)); refine blk_far ?_ NB229_232.out _; (with_reducible repeat (first | refine blk_drewN ?_ _ | refine blk_drew ?_ | refine blk_alloc ?_ _)); exact BK229.out⟩, ⟨by (with_reducible repeat (first | refine blk_drewN ?_ _ | refine blk_drew ?_ | refine blk_alloc ?_ _)); refine blk_far ?_ NB230_232.out _; (with_reducible repeat (first | refine blk_drewN ?_ _ | refine blk_drew ?_ | refine blk_alloc ?_ _)); refine blk_far ?_ NB230_232.out _; (with_reducible repeat (first | refine blk_drewN ?_ _ | refine blk_drew ?_ | refine blk_alloc ?_ _)); refine blk_far ?_ NB230_232.out _; (with_reducible repeat (first | refine blk_drewN ?_ _ | refine blk_drew ?_ | refine blk_alloc ?_ _)); refine blk_far ?_ NB230_232.out _; (with_reducible repeat (first | refine blk_drewN ?_ _ | refine blk_drew ?_ | refine blk_alloc ?_ _)); refine blk_far ?_ NB230_232.out _; (with_reducible repeat (first | refine blk_drewN ?_ _ | refine blk_drew ?_ | refine blk_alloc ?_ _)); exact BK230.out⟩, ⟨by (with_reducible repeat (first | refine blk_drewN ?_ _ | refine blk_drew ?_ | refine blk_alloc ?_ _)); refine blk_far ?_ NB231_232.out _; (with_reducible repeat (first | refine blk_drewN ?_ _ | refine blk_drew ?_ | refine blk_alloc ?_ _)); refine blk_far ?_ NB231_232.out _; (with_reducible repeat (first | refine blk_drewN ?_ _ | refine blk_drew ?_ | refine blk_alloc ?_ _)); refine blk_far ?_ NB231_232.out _; (with_reducible repeat (first | refine blk_drewN ?_ _ | refine blk_drew ?_ | refine blk_alloc ?_ _)); refine blk_far ?_ NB231_232.out _; (with_reducible repeat (first | refine blk_drewN ?_ _ | refine blk_drew ?_ | refine blk_alloc ?_ _)); refine blk_far ?_ NB231_232.out _; (with_reducible repeat (first | refine blk_drewN ?_ _ | refine blk_drew ?_ | refine blk_alloc ?_ _)); exact BK231.out⟩, ⟨by (with_reducible repeat (first | refine blk_drewN ?_ _ | refine blk_drew ?_ | refine blk_alloc ?_ _)); refine blk_put (cs := #[.int .i64 (Int.tmod (wrap64 ((Int.tmod a0_2 (wrap64 (1 + (Go.bits .and .i64 a0_0 3)))) + (wrap64 (1 + (Go.bits .and .i64 a0_0 3))))) (wrap64 (1 + (Go.bits .and .i64 a0_0 3)))), .int .i64 (wrap64 (1 + (Go.bits .and .i64 a0_0 3))), .slice none 0 0, .slice none 0 0, .slice none 0 0]) ?_ 4 _ rfl; (with_reducible repeat (first | refine blk_drewN ?_ _ | refine blk_drew ?_ | refine blk_alloc ?_ _)); refine blk_put (cs := #[.int .i64 (Int.tmod (wrap64 ((Int.tmod a0_2 (wrap64 (1 + (Go.bits .and .i64 a0_0 3)))) + (wrap64 (1 + (Go.bits .and .i64 a0_0 3))))) (wrap64 (1 + (Go.bits .and .i64 a0_0 3)))), .int .i64 (wrap64 (1 + (Go.bits .and .i64 a0_0 3))), .slice none 0 0, .slice none 0 0, .slice none 0 0]) ?_ 3 _ rfl; (with_reducible repeat (first | refine blk_drewN ?_ _ | refine blk_drew ?_ | refine blk_alloc ?_ _)); refine blk_put (cs := #[.int .i64 (Int.tmod (wrap64 ((Int.tmod a0_2 (wrap64 (1 + (Go.bits .and .i64 a0_0 3)))) + (wrap64 (1 + (Go.bits .and .i64 a0_0 3))))) (wrap64 (1 + (Go.bits .and .i64 a0_0 3)))), .int .i64 (wrap64 (1 + (Go.bits .and .i64 a0_0 3))), .slice none 0 0, .slice none 0 0, .slice none 0 0]) ?_ 2 _ rfl; (with_reducible repeat (first | refine blk_drewN ?_ _ | refine blk_drew ?_ | refine blk_alloc ?_ _)); refine blk_put (cs := #[.int .i64 (Int.tmod (wrap64 ((Int.tmod a0_2 (wrap64 (1 + (Go.bits .and .i64 a0_0 3)))) + (wrap64 (1 + (Go.bits .and .i64 a0_0 3))))) (wrap64 (1 + (Go.bits .and .i64 a0_0 3)))), .int .i64 0, .slice none 0 0, .slice none 0 0, .slice none 0 0]) ?_ 1 _ rfl; (with_reducible repeat (first | refine blk_drewN ?_ _ | refine blk_drew ?_ | refine blk_alloc ?_ _)); refine blk_put (cs := #[.int .i64 0, .int .i64 0, .slice none 0 0, .slice none 0 0, .slice none 0 0]) ?_ 0 _ rfl; (with_reducible repeat (first | refine blk_drewN ?_ _ | refine blk_drew ?_ | refine blk_alloc ?_ _)); exact BK232.out⟩, ⟨by repeat (first | (with_reducible first | exact HB.out | apply below_alloc | apply pw_below_drewN | apply below_drew1 | refine below_set ?_ GE229.out | refine below_set ?_ GE230.out | refine below_set ?_ GE231.out | refine below_set ?_ GE232.out) | exact HB.out)⟩⟩
    case round =>
      clear H'
      try clear c1
      try clear c2
      try clear c2b0
      try clear c2b1
      try clear p2
      try clear c6
      try clear p6
      try clear c7
      try clear c10
      try clear c11
      try clear c12
      try clear hcz13_0
      try clear hcz13_1
      try clear hcz13_2
      try clear hcz13_3
      try clear hcz13_4
      try clear hcz8_0
      try clear hcz8_1
      try clear hcz8_2
      try clear hcz8_3
      try clear hcz8_4
      try clear hfz13_0
      try clear hfz13_1
      try clear hfz13_2
      try clear hfz13_3
      try clear hfz13_4
      try clear hfz8_0
      try clear hfz8_1
      try clear hfz8_2
      try clear hfz8_3
      try clear hfz8_4
      obtain ⟨x7_1, x233002_1, u233002, rfl, HA, HK1, HO_233002, BK229, BK230, BK231, BK232, HB⟩ := hrel
      cases gk with
      | zero => exact absurd HA.out (by simp [primerlaw15_made.l0])
      | succ k1 =>
        have H := HA.out
        clear HA
        simp only [primerlaw15_made.l0] at H
        by_cases c14 : x7_1 < (wrap64 (1 + (Go.bits .and .i64 a0_0 3)))
        · rw [if_pos c14] at H
          have c14b0 : decide (x7_1 < (wrap64 (1 + (Go.bits .and .i64 a0_0 3)))) = true := decide_eq_true c14
          clear c14
          obtain ⟨y233, hy233⟩ : ∃ y_ : List Int, y_ = (([(wrap64 (65 + x7_1)) % 256] : List Int)) := ⟨_, rfl⟩
          replace H : (if x233002_1.length < 8796093022208 then (primerlaw15_made.l0 k1 (wrap64 (1 + (Go.bits .and .i64 a0_0 3))) (Go.bits .and .i64 a0_1 3) (wrap64 (x7_1 + 1)) a0_0 a0_1 a0_2 l0_3 l0_4 (Int.tmod (wrap64 ((Int.tmod a0_2 (wrap64 (1 + (Go.bits .and .i64 a0_0 3)))) + (wrap64 (1 + (Go.bits .and .i64 a0_0 3))))) (wrap64 (1 + (Go.bits .and .i64 a0_0 3)))) (wrap64 (1 + (Go.bits .and .i64 a0_0 3))) (x233002_1 ++ [strOfNums y233])) else (none)) = some (r1, r2, r3, r4, r5, r6, r7, r8, r9, r10) := by first | (rw [hy233]; with_reducible exact H) | (have H2_ := (Option.bind_some _ _).symm.trans H; rw [hy233]; with_reducible exact H2_) | (have H2_ := (Option.bind_some _ _).symm.trans H; with_reducible exact H2_) | with_reducible exact H | (rw [hy233]; exact H) | exact H
          have Ny233 := Aside0.mk hy233
          clear hy233
          by_cases c15 : x233002_1.length < 8796093022208
          · rw [if_pos c15] at H
            have LMc15 := Aside0.mk c15
            clear c15
            obtain ⟨y236, hy236⟩ : ∃ y_ : List ByteArray, y_ = (x233002_1 ++ [strOfNums y233]) := ⟨_, rfl⟩
            replace H : (primerlaw15_made.l0 k1 (wrap64 (1 + (Go.bits .and .i64 a0_0 3))) (Go.bits .and .i64 a0_1 3) (wrap64 (x7_1 + 1)) a0_0 a0_1 a0_2 l0_3 l0_4 (Int.tmod (wrap64 ((Int.tmod a0_2 (wrap64 (1 + (Go.bits .and .i64 a0_0 3)))) + (wrap64 (1 + (Go.bits .and .i64 a0_0 3))))) (wrap64 (1 + (Go.bits .and .i64 a0_0 3)))) (wrap64 (1 + (Go.bits .and .i64 a0_0 3))) y236) = some (r1, r2, r3, r4, r5, r6, r7, r8, r9, r10) := by first | (rw [hy236]; with_reducible exact H) | (have H2_ := (Option.bind_some _ _).symm.trans H; rw [hy236]; with_reducible exact H2_) | (have H2_ := (Option.bind_some _ _).symm.trans H; with_reducible exact H2_) | with_reducible exact H | (rw [hy236]; exact H) | exact H
            have Ny236 := Aside0.mk hy236
            clear hy236
            have H' := Aside0.mk H
            clear H
            have hnb16 := NB232_229.out
            have hnc16 := NB229_232.out
            have hnb17 := NB232_230.out
            have hnc17 := NB230_232.out
            have hnb18 := NB232_231.out
            have hnc18 := NB231_232.out
            have hcz19_0 : wr.cell? ⟨gb232, 0, none⟩ = some (.int .i64 (Int.tmod (wrap64 ((Int.tmod a0_2 (wrap64 (1 + (Go.bits .and .i64 a0_0 3)))) + (wrap64 (1 + (Go.bits .and .i64 a0_0 3))))) (wrap64 (1 + (Go.bits .and .i64 a0_0 3))))) := (blk_cell BK232.out 0).trans rfl
            have hcz19_1 : wr.cell? ⟨gb232, 1, none⟩ = some (.int .i64 (wrap64 (1 + (Go.bits .and .i64 a0_0 3)))) := (blk_cell BK232.out 1).trans rfl
            have hcz19_2 : wr.cell? ⟨gb232, 2, none⟩ = some (u233002) := (blk_cell BK232.out 2).trans rfl
            have hcz19_3 : wr.cell? ⟨gb232, 3, none⟩ = some (.slice none 0 0) := (blk_cell BK232.out 3).trans rfl
            have hcz19_4 : wr.cell? ⟨gb232, 4, none⟩ = some (.slice none 0 0) := (blk_cell BK232.out 4).trans rfl
            have hfz19_0 := blk_frozen BK232.out 0
            have hfz19_1 := blk_frozen BK232.out 1
            have hfz19_2 := blk_frozen BK232.out 2
            have hfz19_3 := blk_frozen BK232.out 3
            have hfz19_4 := blk_frozen BK232.out 4
            go_wp2_with (first | ((with_reducible refine gate_dst (N := 42) rfl ?_); (try (refine gate_guard (by rfl) ?_; dsimp only)); refine Kd.R_lit (Kd.int .u8) _ 5 ?hg (N := 42) ?hd (xs := ([(wrap64 (65 + x7_1)) % 256] : List Int)) (inner := [.int .u8 ((wrap64 (65 + x7_1)) % 256)]) (ok := fun _ => True) (okp := fun _ => True) ?hr ?hp (fun _ hk => hk) trivial (Below.refl _ _) (Nat.le_refl _) (by simp) ?_; (case hd => rfl); (case hg => rfl); (case hr => first | (go_simp; done) | (go_simp; rfl)); (case hp => exact (Reps.one (show Kd.M (Kd.int .u8) _ _ _ ((wrap64 (65 + x7_1)) % 256) [.int .u8 ((wrap64 (65 + x7_1)) % 256)] from rfl) (Reps.none _ _))); intro v234 w20 ho21 hb hg_ hnew_; clear hg_ hnew_; (first | rw [← Ny233.out] at ho21 | (simp only [Int.reduceToNat] at ho21; rw [← Ny233.out] at ho21)); have n0_ := Aside0.mk (Kd.R_below (by (with_reducible repeat (first | apply Kd.R_alloc | apply Kd.R_drewN | apply Kd.R_drew)); exact HO_233002.out) hb); have n1_ := Aside0.mk (Kd.R_lower ho21 (below_size (by repeat (first | (with_reducible first | exact HB.out | apply below_alloc | apply pw_below_drewN | apply below_drew1 | refine below_set ?_ GE229.out | refine below_set ?_ GE230.out | refine below_set ?_ GE231.out | refine below_set ?_ GE232.out) | exact HB.out)))); have n2_ := Aside0.mk (blk_below (g := gb229) (o := .cells #[.int .i64 a0_0, .int .i64 a0_1, .int .i64 a0_2, .slice A0_3 l0_3.length c0_3, .slice A0_4 l0_4.length c0_4] 45 (0, 0)) (by (with_reducible repeat (first | refine blk_drewN ?_ _ | refine blk_drew ?_ | refine blk_alloc ?_ _)); exact BK229.out) hb); have n3_ := Aside0.mk (blk_below (g := gb230) (o := .cells #[.int .i64 0, .int .i64 0, .slice none 0 0, .slice none 0 0, .slice none 0 0] 26 (0, 0)) (by (with_reducible repeat (first | refine blk_drewN ?_ _ | refine blk_drew ?_ | refine blk_alloc ?_ _)); exact BK230.out) hb); have n4_ := Aside0.mk (blk_below (g := gb231) (o := .cells #[.int .i64 0, .int .i64 0, .slice none 0 0, .slice none 0 0, .slice none 0 0] 48 (0, 0)) (by (with_reducible repeat (first | refine blk_drewN ?_ _ | refine blk_drew ?_ | refine blk_alloc ?_ _)); exact BK231.out) hb); have n5_ := Aside0.mk (blk_below (g := gb232) (o := .cells #[.int .i64 (Int.tmod (wrap64 ((Int.tmod a0_2 (wrap64 (1 + (Go.bits .and .i64 a0_0 3)))) + (wrap64 (1 + (Go.bits .and .i64 a0_0 3))))) (wrap64 (1 + (Go.bits .and .i64 a0_0 3)))), .int .i64 (wrap64 (1 + (Go.bits .and .i64 a0_0 3))), u233002, .slice none 0 0, .slice none 0 0] 48 (0, 0)) (by (with_reducible repeat (first | refine blk_drewN ?_ _ | refine blk_drew ?_ | refine blk_alloc ?_ _)); exact BK232.out) hb); have n6_ := Aside0.mk (below_step (by repeat (first | (with_reducible first | exact HB.out | apply below_alloc | apply pw_below_drewN | apply below_drew1 | refine below_set ?_ GE229.out | refine below_set ?_ GE230.out | refine below_set ?_ GE231.out | refine below_set ?_ GE232.out) | exact HB.out)) hb); clear HO_233002; clear BK229; clear BK230; clear BK231; clear BK232; clear HB; have HO_233002 := n0_; have HO235 := n1_; have BK229 := n2_; have BK230 := n3_; have BK231 := n4_; have BK232 := n5_; have HB := n6_; clear n0_ n1_ n2_ n3_ n4_ n5_ n6_; clear hb ho21; have hcv22 := own_string (P := Try.prog) Try.underlying37 Try.underlying5 Try.underlying9 (Kd.own_of_R HO235.out)) | ((with_reducible refine gate_builtin (b := .append) (xs := #[.tmp 38, .tmp 44]) rfl ?_); (try (refine gate_guard (by rfl) ?_; dsimp only)); at_builtin; refine Kd.R_append Kd.string (w0 := w) w.heap.size rfl (.tmp 38) (.tmp 44) 23 9 (.string ⟨#[]⟩) 16 rfl Try.underlying23 info9 rfl (by decide) (by omega) u233002 x233002_1 (strOfNums y233) [.string (strOfNums y233)] (fun _ => True) (fun _ => False) rfl rfl ?aP (fun _ hk => hk.elim) ?aF ?aO ?aB ?aS ?aL ?_; (case aP => exact rfl); (case aB => exact (by repeat (first | (with_reducible first | exact HB.out | apply below_alloc | apply pw_below_drewN | apply below_drew1 | refine below_set ?_ GE229.out | refine below_set ?_ GE230.out | refine below_set ?_ GE231.out | refine below_set ?_ GE232.out) | exact HB.out))); (case aF => exact (fun _ _ => trivial)); (case aO => exact (by (with_reducible repeat (first | apply Kd.R_alloc | apply Kd.R_drewN | apply Kd.R_drew)); exact HO_233002.out)); (case aS => exact (below_size (by repeat (first | (with_reducible first | exact HB.out | apply below_alloc | apply pw_below_drewN | apply below_drew1 | refine below_set ?_ GE229.out | refine below_set ?_ GE230.out | refine below_set ?_ GE231.out | refine below_set ?_ GE232.out) | exact HB.out)))); (case aL => have := LMc15.out; omega); intro v237 w23 ho hb hg hat; rw [← Ny236.out] at ho; have n0_ := Aside0.mk (blk_grown (g := gb229) (o := .cells #[.int .i64 a0_0, .int .i64 a0_1, .int .i64 a0_2, .slice A0_3 l0_3.length c0_3, .slice A0_4 l0_4.length c0_4] 45 (0, 0)) (by (with_reducible repeat (first | refine blk_drewN ?_ _ | refine blk_drew ?_ | refine blk_alloc ?_ _)); exact BK229.out) hg (Kd.R_ne HO_233002.out BK229.out (by decide))); have n1_ := Aside0.mk (blk_grown (g := gb230) (o := .cells #[.int .i64 0, .int .i64 0, .slice none 0 0, .slice none 0 0, .slice none 0 0] 26 (0, 0)) (by (with_reducible repeat (first | refine blk_drewN ?_ _ | refine blk_drew ?_ | refine blk_alloc ?_ _)); exact BK230.out) hg (Kd.R_ne HO_233002.out BK230.out (by decide))); have n2_ := Aside0.mk (blk_grown (g := gb231) (o := .cells #[.int .i64 0, .int .i64 0, .slice none 0 0, .slice none 0 0, .slice none 0 0] 48 (0, 0)) (by (with_reducible repeat (first | refine blk_drewN ?_ _ | refine blk_drew ?_ | refine blk_alloc ?_ _)); exact BK231.out) hg (Kd.R_ne HO_233002.out BK231.out (by decide))); have n3_ := Aside0.mk (blk_grown (g := gb232) (o := .cells #[.int .i64 (Int.tmod (wrap64 ((Int.tmod a0_2 (wrap64 (1 + (Go.bits .and .i64 a0_0 3)))) + (wrap64 (1 + (Go.bits .and .i64 a0_0 3))))) (wrap64 (1 + (Go.bits .and .i64 a0_0 3)))), .int .i64 (wrap64 (1 + (Go.bits .and .i64 a0_0 3))), u233002, .slice none 0 0, .slice none 0 0] 48 (0, 0)) (by (with_reducible repeat (first | refine blk_drewN ?_ _ | refine blk_drew ?_ | refine blk_alloc ?_ _)); exact BK232.out) hg (Kd.R_ne HO_233002.out BK232.out (by decide))); have n4_ := Aside0.mk (Kd.R_over' (by (with_reducible repeat (first | apply Kd.R_alloc | apply Kd.R_drewN | apply Kd.R_drew)); exact HO235.out) (Kd.R_typed (by (with_reducible repeat (first | apply Kd.R_alloc | apply Kd.R_drewN | apply Kd.R_drew)); exact HO_233002.out)) (by decide) hg); have n5_ := Aside0.mk (hb); have n6_ := Aside0.mk (ho); clear BK229; clear BK230; clear BK231; clear BK232; clear HO235; clear HB; clear HO_233002; have BK229 := n0_; have BK230 := n1_; have BK231 := n2_; have BK232 := n3_; have HO235 := n4_; have HB := n5_; have HO238 := n6_; clear n0_ n1_ n2_ n3_ n4_ n5_ n6_; clear ho hb hg hat; obtain ⟨Ao24, co24, eo24⟩ := Kd.R_slice HO238.out; subst eo24; have hcz25_0 : w23.cell? ⟨gb232, 0, none⟩ = some (.int .i64 (Int.tmod (wrap64 ((Int.tmod a0_2 (wrap64 (1 + (Go.bits .and .i64 a0_0 3)))) + (wrap64 (1 + (Go.bits .and .i64 a0_0 3))))) (wrap64 (1 + (Go.bits .and .i64 a0_0 3))))) := (blk_cell BK232.out 0).trans rfl; have hcz25_1 : w23.cell? ⟨gb232, 1, none⟩ = some (.int .i64 (wrap64 (1 + (Go.bits .and .i64 a0_0 3)))) := (blk_cell BK232.out 1).trans rfl; have hcz25_2 : w23.cell? ⟨gb232, 2, none⟩ = some (u233002) := (blk_cell BK232.out 2).trans rfl; have hcz25_3 : w23.cell? ⟨gb232, 3, none⟩ = some (.slice none 0 0) := (blk_cell BK232.out 3).trans rfl; have hcz25_4 : w23.cell? ⟨gb232, 4, none⟩ = some (.slice none 0 0) := (blk_cell BK232.out 4).trans rfl; have hfz25_0 := blk_frozen BK232.out 0; have hfz25_1 := blk_frozen BK232.out 1; have hfz25_2 := blk_frozen BK232.out 2; have hfz25_3 := blk_frozen BK232.out 3; have hfz25_4 := blk_frozen BK232.out 4))
            go_roundg k1
            case measure => have := HK1.out; omega
            case rel => exact ⟨(wrap64 (x7_1 + 1)), (y236), (.slice Ao24 y236.length co24), (by first | rfl | (simp; done) | (simp [*]; done)), H', ⟨by have := HK1.out; omega⟩, ⟨by (with_reducible repeat (first | apply Kd.R_alloc | apply Kd.R_drewN | apply Kd.R_drew)); exact Kd.R_mono (Kd.R_far (p := ⟨gb232, 2, none⟩) (Kd.R_types HO238.out BK232.out (by decide)) (fun _ hk => hk.2) (.slice Ao24 y236.length co24)) (fun _ hk => trivial)⟩, ⟨by (with_reducible repeat (first | refine blk_drewN ?_ _ | refine blk_drew ?_ | refine blk_alloc ?_ _)); refine blk_far ?_ NB229_232.out _; (with_reducible repeat (first | refine blk_drewN ?_ _ | refine blk_drew ?_ | refine blk_alloc ?_ _)); exact BK229.out⟩, ⟨by (with_reducible repeat (first | refine blk_drewN ?_ _ | refine blk_drew ?_ | refine blk_alloc ?_ _)); refine blk_far ?_ NB230_232.out _; (with_reducible repeat (first | refine blk_drewN ?_ _ | refine blk_drew ?_ | refine blk_alloc ?_ _)); exact BK230.out⟩, ⟨by (with_reducible repeat (first | refine blk_drewN ?_ _ | refine blk_drew ?_ | refine blk_alloc ?_ _)); refine blk_far ?_ NB231_232.out _; (with_reducible repeat (first | refine blk_drewN ?_ _ | refine blk_drew ?_ | refine blk_alloc ?_ _)); exact BK231.out⟩, ⟨by (with_reducible repeat (first | refine blk_drewN ?_ _ | refine blk_drew ?_ | refine blk_alloc ?_ _)); refine blk_put (cs := #[.int .i64 (Int.tmod (wrap64 ((Int.tmod a0_2 (wrap64 (1 + (Go.bits .and .i64 a0_0 3)))) + (wrap64 (1 + (Go.bits .and .i64 a0_0 3))))) (wrap64 (1 + (Go.bits .and .i64 a0_0 3)))), .int .i64 (wrap64 (1 + (Go.bits .and .i64 a0_0 3))), u233002, .slice none 0 0, .slice none 0 0]) ?_ 2 _ rfl; (with_reducible repeat (first | refine blk_drewN ?_ _ | refine blk_drew ?_ | refine blk_alloc ?_ _)); exact BK232.out⟩, ⟨by repeat (first | (with_reducible first | exact HB.out | apply below_alloc | apply pw_below_drewN | apply below_drew1 | refine below_set ?_ GE229.out | refine below_set ?_ GE230.out | refine below_set ?_ GE231.out | refine below_set ?_ GE232.out) | exact HB.out)⟩⟩
          · rw [if_neg c15] at H
            exact absurd H (by simp)
        · rw [if_neg c14] at H
          have c14b0 : decide (x7_1 < (wrap64 (1 + (Go.bits .and .i64 a0_0 3)))) = false := decide_eq_false c14
          clear c14
          have H' := Aside0.mk H
          clear H
          go_wp2
          repeat (go_quiet (fail); try go_wp2)
          go_loopg [8] k1 (fun kq v8 w' => ∃ (x8_2 : Int) (x233003_2 : List ByteArray) (u233003 : Value), v8 = .int .i64 x8_2 ∧ Aside0 (primerlaw15_made.l1 kq (wrap64 (1 + (Go.bits .and .i64 a0_0 3))) (Go.bits .and .i64 a0_1 3) x8_2 a0_0 a0_1 a0_2 l0_3 l0_4 (Int.tmod (wrap64 ((Int.tmod a0_2 (wrap64 (1 + (Go.bits .and .i64 a0_0 3)))) + (wrap64 (1 + (Go.bits .and .i64 a0_0 3))))) (wrap64 (1 + (Go.bits .and .i64 a0_0 3)))) (wrap64 (1 + (Go.bits .and .i64 a0_0 3))) x233002_1 x233003_2 = some (r1, r2, r3, r4, r5, r6, r7, r8, r9, r10)) ∧ Aside0 (kq ≤ k1) ∧ Aside0 (Kd.R Kd.string 9 w' w.heap.size (fun k_ => some k_ ≠ (u233003 : Value).ownBlock) u233002 x233002_1) ∧ Aside0 (Kd.R Kd.string 9 w' w.heap.size (fun k_ => some k_ ≠ (u233002 : Value).ownBlock) u233003 x233003_2) ∧ Aside0 (w'.heap[gb229]? = some (.cells #[.int .i64 a0_0, .int .i64 a0_1, .int .i64 a0_2, (.slice A0_3 l0_3.length c0_3), (.slice A0_4 l0_4.length c0_4)] 45 (0, 0))) ∧ Aside0 (w'.heap[gb230]? = some (.cells #[.int .i64 0, .int .i64 0, (.slice none 0 0), (.slice none 0 0), (.slice none 0 0)] 26 (0, 0))) ∧ Aside0 (w'.heap[gb231]? = some (.cells #[.int .i64 0, .int .i64 0, (.slice none 0 0), (.slice none 0 0), (.slice none 0 0)] 48 (0, 0))) ∧ Aside0 (w'.heap[gb232]? = some (.cells #[.int .i64 (Int.tmod (wrap64 ((Int.tmod a0_2 (wrap64 (1 + (Go.bits .and .i64 a0_0 3)))) + (wrap64 (1 + (Go.bits .and .i64 a0_0 3))))) (wrap64 (1 + (Go.bits .and .i64 a0_0 3)))), .int .i64 (wrap64 (1 + (Go.bits .and .i64 a0_0 3))), u233002, u233003, (.slice none 0 0)] 48 (0, 0))) ∧ Aside0 (Below w.heap.size w w'))
          case atStart => exact ⟨(0), (([] : List ByteArray)), (.slice none 0 0), (by first | rfl | (simp; done) | (simp [*]; done)), H', ⟨Nat.le_refl _⟩, ⟨by (with_reducible repeat (first | apply Kd.R_alloc | apply Kd.R_drewN | apply Kd.R_drew)); exact Kd.R_mono HO_233002.out (fun _ hk => (by simp [Value.ownBlock]))⟩, ⟨by first | exact Kd.R_nil _ _ _ _ _ | exact Kd.N_nil _ _ _ _ _ | exact Kd.V_nil _ _ _ _ _ | exact Kd.Q_nil _ _ _ _ _ | exact Kd.S_nil _ _ _ _ _⟩, ⟨by (with_reducible repeat (first | refine blk_drewN ?_ _ | refine blk_drew ?_ | refine blk_alloc ?_ _)); exact BK229.out⟩, ⟨by (with_reducible repeat (first | refine blk_drewN ?_ _ | refine blk_drew ?_ | refine blk_alloc ?_ _)); exact BK230.out⟩, ⟨by (with_reducible repeat (first | refine blk_drewN ?_ _ | refine blk_drew ?_ | refine blk_alloc ?_ _)); exact BK231.out⟩, ⟨by (with_reducible repeat (first | refine blk_drewN ?_ _ | refine blk_drew ?_ | refine blk_alloc ?_ _)); exact BK232.out⟩, ⟨by repeat (first | (with_reducible first | exact HB.out | apply below_alloc | apply pw_below_drewN | apply below_drew1 | refine below_set ?_ GE229.out | refine below_set ?_ GE230.out | refine below_set ?_ GE231.out | refine below_set ?_ GE232.out) | exact HB.out)⟩⟩
          case round =>
            clear H'
            try clear c1
            try clear c2
            try clear c2b0
            try clear c2b1
            try clear p2
            try clear hcv2
            try clear c6
            try clear p6
            try clear c7
            try clear c10
            try clear c11
            try clear c12
            try clear c14
            try clear c14b0
            try clear c15
            try clear c16
            try clear c17
            try clear c18
            try clear hcv22
            try clear hcz13_0
            try clear hcz13_1
            try clear hcz13_2
            try clear hcz13_3
            try clear hcz13_4
            try clear hcz19_0
            try clear hcz19_1
            try clear hcz19_2
            try clear hcz19_3
            try clear hcz19_4
            try clear hcz25_0
            try clear hcz25_1
            try clear hcz25_2
            try clear hcz25_3
            try clear hcz25_4
            try clear hcz8_0
            try clear hcz8_1
            try clear hcz8_2
            try clear hcz8_3
            try clear hcz8_4
            try clear hfz13_0
            try clear hfz13_1
            try clear hfz13_2
            try clear hfz13_3
            try clear hfz13_4
            try clear hfz19_0
            try clear hfz19_1
            try clear hfz19_2
            try clear hfz19_3
            try clear hfz19_4
            try clear hfz25_0
            try clear hfz25_1
            try clear hfz25_2
            try clear hfz25_3
            try clear hfz25_4
            try clear hfz8_0
            try clear hfz8_1
            try clear hfz8_2
            try clear hfz8_3
            try clear hfz8_4
            try clear p2
            try clear p6
            obtain ⟨x8_2, x233003_2, u233003, rfl, HA, HK2, HO_233002, HO_233003, BK229, BK230, BK231, BK232, HB⟩ := hrel
            cases gk with
            | zero => exact absurd HA.out (by simp [primerlaw15_made.l1])
            | succ k2 =>
              have H := HA.out
              clear HA
              simp only [primerlaw15_made.l1] at H
              by_cases c26 : x8_2 < (Go.bits .and .i64 a0_1 3)
              · rw [if_pos c26] at H
                have c26b0 : decide (x8_2 < (Go.bits .and .i64 a0_1 3)) = true := decide_eq_true c26
                clear c26
                obtain ⟨y239, hy239⟩ : ∃ y_ : List Int, y_ = (([(wrap64 (97 + x8_2)) % 256] : List Int)) := ⟨_, rfl⟩
                replace H : (if x233003_2.length < 8796093022208 then (primerlaw15_made.l1 k2 (wrap64 (1 + (Go.bits .and .i64 a0_0 3))) (Go.bits .and .i64 a0_1 3) (wrap64 (x8_2 + 1)) a0_0 a0_1 a0_2 l0_3 l0_4 (Int.tmod (wrap64 ((Int.tmod a0_2 (wrap64 (1 + (Go.bits .and .i64 a0_0 3)))) + (wrap64 (1 + (Go.bits .and .i64 a0_0 3))))) (wrap64 (1 + (Go.bits .and .i64 a0_0 3)))) (wrap64 (1 + (Go.bits .and .i64 a0_0 3))) x233002_1 (x233003_2 ++ [strOfNums y239])) else (none)) = some (r1, r2, r3, r4, r5, r6, r7, r8, r9, r10) := by first | (rw [hy239]; with_reducible exact H) | (have H2_ := (Option.bind_some _ _).symm.trans H; rw [hy239]; with_reducible exact H2_) | (have H2_ := (Option.bind_some _ _).symm.trans H; with_reducible exact H2_) | with_reducible exact H | (rw [hy239]; exact H) | exact H
                have Ny239 := Aside0.mk hy239
                clear hy239
                by_cases c27 : x233003_2.length < 8796093022208
                · rw [if_pos c27] at H
                  have LMc27 := Aside0.mk c27
                  clear c27
                  obtain ⟨y242, hy242⟩ : ∃ y_ : List ByteArray, y_ = (x233003_2 ++ [strOfNums y239]) := ⟨_, rfl⟩
                  replace H : (primerlaw15_made.l1 k2 (wrap64 (1 + (Go.bits .and .i64 a0_0 3))) (Go.bits .and .i64 a0_1 3) (wrap64 (x8_2 + 1)) a0_0 a0_1 a0_2 l0_3 l0_4 (Int.tmod (wrap64 ((Int.tmod a0_2 (wrap64 (1 + (Go.bits .and .i64 a0_0 3)))) + (wrap64 (1 + (Go.bits .and .i64 a0_0 3))))) (wrap64 (1 + (Go.bits .and .i64 a0_0 3)))) (wrap64 (1 + (Go.bits .and .i64 a0_0 3))) x233002_1 y242) = some (r1, r2, r3, r4, r5, r6, r7, r8, r9, r10) := by first | (rw [hy242]; with_reducible exact H) | (have H2_ := (Option.bind_some _ _).symm.trans H; rw [hy242]; with_reducible exact H2_) | (have H2_ := (Option.bind_some _ _).symm.trans H; with_reducible exact H2_) | with_reducible exact H | (rw [hy242]; exact H) | exact H
                  have Ny242 := Aside0.mk hy242
                  clear hy242
                  have H' := Aside0.mk H
                  clear H
                  have hnb28 := NB232_229.out
                  have hnc28 := NB229_232.out
                  have hnb29 := NB232_230.out
                  have hnc29 := NB230_232.out
                  have hnb30 := NB232_231.out
                  have hnc30 := NB231_232.out
                  have hcz31_0 : wr.cell? ⟨gb232, 0, none⟩ = some (.int .i64 (Int.tmod (wrap64 ((Int.tmod a0_2 (wrap64 (1 + (Go.bits .and .i64 a0_0 3)))) + (wrap64 (1 + (Go.bits .and .i64 a0_0 3))))) (wrap64 (1 + (Go.bits .and .i64 a0_0 3))))) := (blk_cell BK232.out 0).trans rfl
                  have hcz31_1 : wr.cell? ⟨gb232, 1, none⟩ = some (.int .i64 (wrap64 (1 + (Go.bits .and .i64 a0_0 3)))) := (blk_cell BK232.out 1).trans rfl
                  have hcz31_2 : wr.cell? ⟨gb232, 2, none⟩ = some (u233002) := (blk_cell BK232.out 2).trans rfl
                  have hcz31_3 : wr.cell? ⟨gb232, 3, none⟩ = some (u233003) := (blk_cell BK232.out 3).trans rfl
                  have hcz31_4 : wr.cell? ⟨gb232, 4, none⟩ = some (.slice none 0 0) := (blk_cell BK232.out 4).trans rfl
                  have hfz31_0 := blk_frozen BK232.out 0
                  have hfz31_1 := blk_frozen BK232.out 1
                  have hfz31_2 := blk_frozen BK232.out 2
                  have hfz31_3 := blk_frozen BK232.out 3
                  have hfz31_4 := blk_frozen BK232.out 4
                  go_wp2_with (first | ((with_reducible refine gate_dst (N := 57) rfl ?_); (try (refine gate_guard (by rfl) ?_; dsimp only)); refine Kd.R_lit (Kd.int .u8) _ 5 ?hg (N := 57) ?hd (xs := ([(wrap64 (97 + x8_2)) % 256] : List Int)) (inner := [.int .u8 ((wrap64 (97 + x8_2)) % 256)]) (ok := fun _ => True) (okp := fun _ => True) ?hr ?hp (fun _ hk => hk) trivial (Below.refl _ _) (Nat.le_refl _) (by simp) ?_; (case hd => rfl); (case hg => rfl); (case hr => first | (go_simp; done) | (go_simp; rfl)); (case hp => exact (Reps.one (show Kd.M (Kd.int .u8) _ _ _ ((wrap64 (97 + x8_2)) % 256) [.int .u8 ((wrap64 (97 + x8_2)) % 256)] from rfl) (Reps.none _ _))); intro v240 w32 ho33 hb hg_ hnew_; clear hg_ hnew_; (first | rw [← Ny239.out] at ho33 | (simp only [Int.reduceToNat] at ho33; rw [← Ny239.out] at ho33)); have n0_ := Aside0.mk (Kd.R_below (by (with_reducible repeat (first | apply Kd.R_alloc | apply Kd.R_drewN | apply Kd.R_drew)); exact HO_233002.out) hb); have n1_ := Aside0.mk (Kd.R_below (by (with_reducible repeat (first | apply Kd.R_alloc | apply Kd.R_drewN | apply Kd.R_drew)); exact HO_233003.out) hb); have n2_ := Aside0.mk (Kd.R_lower ho33 (below_size (by repeat (first | (with_reducible first | exact HB.out | apply below_alloc | apply pw_below_drewN | apply below_drew1 | refine below_set ?_ GE229.out | refine below_set ?_ GE230.out | refine below_set ?_ GE231.out | refine below_set ?_ GE232.out) | exact HB.out)))); have n3_ := Aside0.mk (blk_below (g := gb229) (o := .cells #[.int .i64 a0_0, .int .i64 a0_1, .int .i64 a0_2, .slice A0_3 l0_3.length c0_3, .slice A0_4 l0_4.length c0_4] 45 (0, 0)) (by (with_reducible repeat (first | refine blk_drewN ?_ _ | refine blk_drew ?_ | refine blk_alloc ?_ _)); exact BK229.out) hb); have n4_ := Aside0.mk (blk_below (g := gb230) (o := .cells #[.int .i64 0, .int .i64 0, .slice none 0 0, .slice none 0 0, .slice none 0 0] 26 (0, 0)) (by (with_reducible repeat (first | refine blk_drewN ?_ _ | refine blk_drew ?_ | refine blk_alloc ?_ _)); exact BK230.out) hb); have n5_ := Aside0.mk (blk_below (g := gb231) (o := .cells #[.int .i64 0, .int .i64 0, .slice none 0 0, .slice none 0 0, .slice none 0 0] 48 (0, 0)) (by (with_reducible repeat (first | refine blk_drewN ?_ _ | refine blk_drew ?_ | refine blk_alloc ?_ _)); exact BK231.out) hb); have n6_ := Aside0.mk (blk_below (g := gb232) (o := .cells #[.int .i64 (Int.tmod (wrap64 ((Int.tmod a0_2 (wrap64 (1 + (Go.bits .and .i64 a0_0 3)))) + (wrap64 (1 + (Go.bits .and .i64 a0_0 3))))) (wrap64 (1 + (Go.bits .and .i64 a0_0 3)))), .int .i64 (wrap64 (1 + (Go.bits .and .i64 a0_0 3))), u233002, u233003, .slice none 0 0] 48 (0, 0)) (by (with_reducible repeat (first | refine blk_drewN ?_ _ | refine blk_drew ?_ | refine blk_alloc ?_ _)); exact BK232.out) hb); have n7_ := Aside0.mk (below_step (by repeat (first | (with_reducible first | exact HB.out | apply below_alloc | apply pw_below_drewN | apply below_drew1 | refine below_set ?_ GE229.out | refine below_set ?_ GE230.out | refine below_set ?_ GE231.out | refine below_set ?_ GE232.out) | exact HB.out)) hb); clear HO_233002; clear HO_233003; clear BK229; clear BK230; clear BK231; clear BK232; clear HB; have HO_233002 := n0_; have HO_233003 := n1_; have HO241 := n2_; have BK229 := n3_; have BK230 := n4_; have BK231 := n5_; have BK232 := n6_; have HB := n7_; clear n0_ n1_ n2_ n3_ n4_ n5_ n6_ n7_; clear hb ho33; have hcv34 := own_string (P := Try.prog) Try.underlying37 Try.underlying5 Try.underlying9 (Kd.own_of_R HO241.out)) | ((with_reducible refine gate_builtin (b := .append) (xs := #[.tmp 53, .tmp 59]) rfl ?_); (try (refine gate_guard (by rfl) ?_; dsimp only)); at_builtin; refine Kd.R_append Kd.string (w0 := w) w.heap.size rfl (.tmp 53) (.tmp 59) 23 9 (.string ⟨#[]⟩) 16 rfl Try.underlying23 info9 rfl (by decide) (by omega) u233003 x233003_2 (strOfNums y239) [.string (strOfNums y239)] (fun k_ => some k_ ≠ (u233002 : Value).ownBlock) (fun _ => False) rfl rfl ?aP (fun _ hk => hk.elim) ?aF ?aO ?aB ?aS ?aL ?_; (case aP => exact rfl); (case aB => exact (by repeat (first | (with_reducible first | exact HB.out | apply below_alloc | apply pw_below_drewN | apply below_drew1 | refine below_set ?_ GE229.out | refine below_set ?_ GE230.out | refine below_set ?_ GE231.out | refine below_set ?_ GE232.out) | exact HB.out))); (case aF => exact (fun k_ hk => Kd.fresh' (Kd.R_lt (by (with_reducible repeat (first | apply Kd.R_alloc | apply Kd.R_drewN | apply Kd.R_drew)); exact HO_233002.out)) k_ hk)); (case aO => exact (by (with_reducible repeat (first | apply Kd.R_alloc | apply Kd.R_drewN | apply Kd.R_drew)); exact HO_233003.out)); (case aS => exact (below_size (by repeat (first | (with_reducible first | exact HB.out | apply below_alloc | apply pw_below_drewN | apply below_drew1 | refine below_set ?_ GE229.out | refine below_set ?_ GE230.out | refine below_set ?_ GE231.out | refine below_set ?_ GE232.out) | exact HB.out)))); (case aL => have := LMc27.out; omega); intro v243 w35 ho hb hg hat; rw [← Ny242.out] at ho; have n0_ := Aside0.mk (Kd.R_after (ok := (fun _ => True)) (by (with_reducible repeat (first | apply Kd.R_alloc | apply Kd.R_drewN | apply Kd.R_drew)); exact Kd.R_mono HO_233002.out (fun _ hk => ⟨trivial, hk⟩)) hg hat); have n1_ := Aside0.mk (blk_grown (g := gb229) (o := .cells #[.int .i64 a0_0, .int .i64 a0_1, .int .i64 a0_2, .slice A0_3 l0_3.length c0_3, .slice A0_4 l0_4.length c0_4] 45 (0, 0)) (by (with_reducible repeat (first | refine blk_drewN ?_ _ | refine blk_drew ?_ | refine blk_alloc ?_ _)); exact BK229.out) hg (Kd.R_ne HO_233003.out BK229.out (by decide))); have n2_ := Aside0.mk (blk_grown (g := gb230) (o := .cells #[.int .i64 0, .int .i64 0, .slice none 0 0, .slice none 0 0, .slice none 0 0] 26 (0, 0)) (by (with_reducible repeat (first | refine blk_drewN ?_ _ | refine blk_drew ?_ | refine blk_alloc ?_ _)); exact BK230.out) hg (Kd.R_ne HO_233003.out BK230.out (by decide))); have n3_ := Aside0.mk (blk_grown (g := gb231) (o := .cells #[.int .i64 0, .int .i64 0, .slice none 0 0, .slice none 0 0, .slice none 0 0] 48 (0, 0)) (by (with_reducible repeat (first | refine blk_drewN ?_ _ | refine blk_drew ?_ | refine blk_alloc ?_ _)); exact BK231.out) hg (Kd.R_ne HO_233003.out BK231.out (by decide))); have n4_ := Aside0.mk (blk_grown (g := gb232) (o := .cells #[.int .i64 (Int.tmod (wrap64 ((Int.tmod a0_2 (wrap64 (1 + (Go.bits .and .i64 a0_0 3)))) + (wrap64 (1 + (Go.bits .and .i64 a0_0 3))))) (wrap64 (1 + (Go.bits .and .i64 a0_0 3)))), .int .i64 (wrap64 (1 + (Go.bits .and .i64 a0_0 3))), u233002, u233003, .slice none 0 0] 48 (0, 0)) (by (with_reducible repeat (first | refine blk_drewN ?_ _ | refine blk_drew ?_ | refine blk_alloc ?_ _)); exact BK232.out) hg (Kd.R_ne HO_233003.out BK232.out (by decide))); have n5_ := Aside0.mk (Kd.R_over' (by (with_reducible repeat (first | apply Kd.R_alloc | apply Kd.R_drewN | apply Kd.R_drew)); exact HO241.out) (Kd.R_typed (by (with_reducible repeat (first | apply Kd.R_alloc | apply Kd.R_drewN | apply Kd.R_drew)); exact HO_233003.out)) (by decide) hg); have n6_ := Aside0.mk (hb); have n7_ := Aside0.mk (ho); clear HO_233002; clear BK229; clear BK230; clear BK231; clear BK232; clear HO241; clear HB; clear HO_233003; have HO_233002 := n0_; have BK229 := n1_; have BK230 := n2_; have BK231 := n3_; have BK232 := n4_; have HO241 := n5_; have HB := n6_; have HO244 := n7_; clear n0_ n1_ n2_ n3_ n4_ n5_ n6_ n7_; clear ho hb hg hat; obtain ⟨Ao36, co36, eo36⟩ := Kd.R_slice HO244.out; subst eo36; have hcz37_0 : w35.cell? ⟨gb232, 0, none⟩ = some (.int .i64 (Int.tmod (wrap64 ((Int.tmod a0_2 (wrap64 (1 + (Go.bits .and .i64 a0_0 3)))) + (wrap64 (1 + (Go.bits .and .i64 a0_0 3))))) (wrap64 (1 + (Go.bits .and .i64 a0_0 3))))) := (blk_cell BK232.out 0).trans rfl; have hcz37_1 : w35.cell? ⟨gb232, 1, none⟩ = some (.int .i64 (wrap64 (1 + (Go.bits .and .i64 a0_0 3)))) := (blk_cell BK232.out 1).trans rfl; have hcz37_2 : w35.cell? ⟨gb232, 2, none⟩ = some (u233002) := (blk_cell BK232.out 2).trans rfl; have hcz37_3 : w35.cell? ⟨gb232, 3, none⟩ = some (u233003) := (blk_cell BK232.out 3).trans rfl; have hcz37_4 : w35.cell? ⟨gb232, 4, none⟩ = some (.slice none 0 0) := (blk_cell BK232.out 4).trans rfl; have hfz37_0 := blk_frozen BK232.out 0; have hfz37_1 := blk_frozen BK232.out 1; have hfz37_2 := blk_frozen BK232.out 2; have hfz37_3 := blk_frozen BK232.out 3; have hfz37_4 := blk_frozen BK232.out 4))
                  go_roundg k2
                  case measure => have := HK1.out; have := HK2.out; omega
                  case rel => exact ⟨(wrap64 (x8_2 + 1)), (y242), (.slice Ao36 y242.length co36), (by first | rfl | (simp; done) | (simp [*]; done)), H', ⟨by have := HK1.out; have := HK2.out; omega⟩, ⟨by (with_reducible repeat (first | apply Kd.R_alloc | apply Kd.R_drewN | apply Kd.R_drew)); exact Kd.R_mono (Kd.R_far (p := ⟨gb232, 3, none⟩) (Kd.R_types HO_233002.out BK232.out (by decide)) (fun _ hk => hk.2) (.slice Ao36 y242.length co36)) (fun _ hk => hk.1.2)⟩, ⟨by (with_reducible repeat (first | apply Kd.R_alloc | apply Kd.R_drewN | apply Kd.R_drew)); exact Kd.R_mono (Kd.R_far (p := ⟨gb232, 3, none⟩) (Kd.R_types HO244.out BK232.out (by decide)) (fun _ hk => hk.2) (.slice Ao36 y242.length co36)) (fun _ hk => hk.1)⟩, ⟨by (with_reducible repeat (first | refine blk_drewN ?_ _ | refine blk_drew ?_ | refine blk_alloc ?_ _)); refine blk_far ?_ NB229_232.out _; (with_reducible repeat (first | refine blk_drewN ?_ _ | refine blk_drew ?_ | refine blk_alloc ?_ _)); exact BK229.out⟩, ⟨by (with_reducible repeat (first | refine blk_drewN ?_ _ | refine blk_drew ?_ | refine blk_alloc ?_ _)); refine blk_far ?_ NB230_232.out _; (with_reducible repeat (first | refine blk_drewN ?_ _ | refine blk_drew ?_ | refine blk_alloc ?_ _)); exact BK230.out⟩, ⟨by (with_reducible repeat (first | refine blk_drewN ?_ _ | refine blk_drew ?_ | refine blk_alloc ?_ _)); refine blk_far ?_ NB231_232.out _; (with_reducible repeat (first | refine blk_drewN ?_ _ | refine blk_drew ?_ | refine blk_alloc ?_ _)); exact BK231.out⟩, ⟨by (with_reducible repeat (first | refine blk_drewN ?_ _ | refine blk_drew ?_ | refine blk_alloc ?_ _)); refine blk_put (cs := #[.int .i64 (Int.tmod (wrap64 ((Int.tmod a0_2 (wrap64 (1 + (Go.bits .and .i64 a0_0 3)))) + (wrap64 (1 + (Go.bits .and .i64 a0_0 3))))) (wrap64 (1 + (Go.bits .and .i64 a0_0 3)))), .int .i64 (wrap64 (1 + (Go.bits .and .i64 a0_0 3))), u233002, u233003, .slice none 0 0]) ?_ 3 _ rfl; (with_reducible repeat (first | refine blk_drewN ?_ _ | refine blk_drew ?_ | refine blk_alloc ?_ _)); exact BK232.out⟩, ⟨by repeat (first | (with_reducible first | exact HB.out | apply below_alloc | apply pw_below_drewN | apply below_drew1 | refine below_set ?_ GE229.out | refine below_set ?_ GE230.out | refine below_set ?_ GE231.out | refine below_set ?_ GE232.out) | exact HB.out)⟩⟩
                · rw [if_neg c27] at H
                  exact absurd H (by simp)
              · rw [if_neg c26] at H
                have c26b0 : decide (x8_2 < (Go.bits .and .i64 a0_1 3)) = false := decide_eq_false c26
                clear c26
                have H' := Aside0.mk H
                clear H
                go_wp2
                repeat (go_quiet (fail); try go_wp2)
                go_loopg [9] k2 (fun kq v9 w' => ∃ (x9_3 : Int) (x233004_3 : List (S64)) (u233004 : Value), v9 = .int .i64 x9_3 ∧ Aside0 (primerlaw15_made.l2 kq (wrap64 (1 + (Go.bits .and .i64 a0_0 3))) (Go.bits .and .i64 a0_1 3) x9_3 a0_0 a0_1 a0_2 l0_3 l0_4 (Int.tmod (wrap64 ((Int.tmod a0_2 (wrap64 (1 + (Go.bits .and .i64 a0_0 3)))) + (wrap64 (1 + (Go.bits .and .i64 a0_0 3))))) (wrap64 (1 + (Go.bits .and .i64 a0_0 3)))) (wrap64 (1 + (Go.bits .and .i64 a0_0 3))) x233002_1 x233003_2 x233004_3 = some (r1, r2, r3, r4, r5, r6, r7, r8, r9, r10)) ∧ Aside0 (kq ≤ k2) ∧ Aside0 (Kd.R Kd.string 9 w' w.heap.size (fun k_ => some k_ ≠ (u233003 : Value).ownBlock) u233002 x233002_1) ∧ Aside0 (Kd.R Kd.string 9 w' w.heap.size (fun k_ => some k_ ≠ (u233002 : Value).ownBlock) u233003 x233003_2) ∧ Aside0 (Kd.S k64 64 w' w.heap.size (fun _ => True) u233004 x233004_3) ∧ Aside0 (w'.heap[gb229]? = some (.cells #[.int .i64 a0_0, .int .i64 a0_1, .int .i64 a0_2, (.slice A0_3 l0_3.length c0_3), (.slice A0_4 l0_4.length c0_4)] 45 (0, 0))) ∧ Aside0 (w'.heap[gb230]? = some (.cells #[.int .i64 0, .int .i64 0, (.slice none 0 0), (.slice none 0 0), (.slice none 0 0)] 26 (0, 0))) ∧ Aside0 (w'.heap[gb231]? = some (.cells #[.int .i64 0, .int .i64 0, (.slice none 0 0), (.slice none 0 0), (.slice none 0 0)] 48 (0, 0))) ∧ Aside0 (w'.heap[gb232]? = some (.cells #[.int .i64 (Int.tmod (wrap64 ((Int.tmod a0_2 (wrap64 (1 + (Go.bits .and .i64 a0_0 3)))) + (wrap64 (1 + (Go.bits .and .i64 a0_0 3))))) (wrap64 (1 + (Go.bits .and .i64 a0_0 3)))), .int .i64 (wrap64 (1 + (Go.bits .and .i64 a0_0 3))), u233002, u233003, u233004] 48 (0, 0))) ∧ Aside0 (Below w.heap.size w w'))
                case atStart => exact ⟨(0), (([] : List (S64))), (.slice none 0 0), (by first | rfl | (simp; done) | (simp [*]; done)), H', ⟨Nat.le_refl _⟩, ⟨by (with_reducible repeat (first | apply Kd.R_alloc | apply Kd.R_drewN | apply Kd.R_drew)); exact HO_233002.out⟩, ⟨by (with_reducible repeat (first | apply Kd.R_alloc | apply Kd.R_drewN | apply Kd.R_drew)); exact HO_233003.out⟩, ⟨by first | exact Kd.S_nil _ _ _ _ _ | exact Kd.N_nil _ _ _ _ _ | exact Kd.V_nil _ _ _ _ _ | exact Kd.Q_nil _ _ _ _ _ | exact Kd.R_nil _ _ _ _ _⟩, ⟨by (with_reducible repeat (first | refine blk_drewN ?_ _ | refine blk_drew ?_ | refine blk_alloc ?_ _)); exact BK229.out⟩, ⟨by (with_reducible repeat (first | refine blk_drewN ?_ _ | refine blk_drew ?_ | refine blk_alloc ?_ _)); exact BK230.out⟩, ⟨by (with_reducible repeat (first | refine blk_drewN ?_ _ | refine blk_drew ?_ | refine blk_alloc ?_ _)); exact BK231.out⟩, ⟨by (with_reducible repeat (first | refine blk_drewN ?_ _ | refine blk_drew ?_ | refine blk_alloc ?_ _)); exact BK232.out⟩, ⟨by repeat (first | (with_reducible first | exact HB.out | apply below_alloc | apply pw_below_drewN | apply below_drew1 | refine below_set ?_ GE229.out | refine below_set ?_ GE230.out | refine below_set ?_ GE231.out | refine below_set ?_ GE232.out) | exact HB.out)⟩⟩
                case round =>
                  clear H'
                  try clear c1
                  try clear c2
                  try clear c2b0
                  try clear c2b1
                  try clear p2
                  try clear hcv2
                  try clear c3
                  try clear hcv3
                  try clear c6
                  try clear p6
                  try clear c7
                  try clear c10
                  try clear c11
                  try clear c12
                  try clear c14
                  try clear c14b0
                  try clear c15
                  try clear c16
                  try clear c17
                  try clear c18
                  try clear hcv22
                  try clear c26
                  try clear c26b0
                  try clear c27
                  try clear c28
                  try clear c29
                  try clear c30
                  try clear hcv34
                  try clear hcz13_0
                  try clear hcz13_1
                  try clear hcz13_2
                  try clear hcz13_3
                  try clear hcz13_4
                  try clear hcz19_0
                  try clear hcz19_1
                  try clear hcz19_2
                  try clear hcz19_3
                  try clear hcz19_4
                  try clear hcz25_0
                  try clear hcz25_1
                  try clear hcz25_2
                  try clear hcz25_3
                  try clear hcz25_4
                  try clear hcz31_0
                  try clear hcz31_1
                  try clear hcz31_2
                  try clear hcz31_3
                  try clear hcz31_4
                  try clear hcz37_0
                  try clear hcz37_1
                  try clear hcz37_2
                  try clear hcz37_3
                  try clear hcz37_4
                  try clear hcz8_0
                  try clear hcz8_1
                  try clear hcz8_2
                  try clear hcz8_3
                  try clear hcz8_4
                  try clear hfz13_0
                  try clear hfz13_1
                  try clear hfz13_2
                  try clear hfz13_3
                  try clear hfz13_4
                  try clear hfz19_0
                  try clear hfz19_1
                  try clear hfz19_2
                  try clear hfz19_3
                  try clear hfz19_4
                  try clear hfz25_0
                  try clear hfz25_1
                  try clear hfz25_2
                  try clear hfz25_3
                  try clear hfz25_4
                  try clear hfz31_0
                  try clear hfz31_1
                  try clear hfz31_2
                  try clear hfz31_3
                  try clear hfz31_4
                  try clear hfz37_0
                  try clear hfz37_1
                  try clear hfz37_2
                  try clear hfz37_3
                  try clear hfz37_4
                  try clear hfz8_0
                  try clear hfz8_1
                  try clear hfz8_2
                  try clear hfz8_3
                  try clear hfz8_4
                  try clear p2
                  try clear p6
                  obtain ⟨x9_3, x233004_3, u233004, rfl, HA, HK3, HO_233002, HO_233003, HO_233004, BK229, BK230, BK231, BK232, HB⟩ := hrel
                  cases gk with
                  | zero => exact absurd HA.out (by simp [primerlaw15_made.l2])
                  | succ k3 =>
                    have H := HA.out
                    clear HA
                    simp only [primerlaw15_made.l2] at H
                    by_cases c38 : x9_3 < (wrap64 (1 + (Go.bits .and .i64 a0_0 3)))
                    · rw [if_pos c38] at H
                      have c38b0 : decide (x9_3 < (wrap64 (1 + (Go.bits .and .i64 a0_0 3)))) = true := decide_eq_true c38
                      clear c38
                      have H' := Aside0.mk H
                      clear H
                      go_wp2
                      repeat (go_quiet (fail); try go_wp2)
                      go_loopg [10] k3 (fun kq v10 w' => ∃ (x10_4 : Int) (x233004_4 : List (S64)) (u233004 : Value), v10 = .int .i64 x10_4 ∧ Aside0 (primerlaw15_made.l3 kq (wrap64 (1 + (Go.bits .and .i64 a0_0 3))) (Go.bits .and .i64 a0_1 3) x9_3 x10_4 a0_0 a0_1 a0_2 l0_3 l0_4 (Int.tmod (wrap64 ((Int.tmod a0_2 (wrap64 (1 + (Go.bits .and .i64 a0_0 3)))) + (wrap64 (1 + (Go.bits .and .i64 a0_0 3))))) (wrap64 (1 + (Go.bits .and .i64 a0_0 3)))) (wrap64 (1 + (Go.bits .and .i64 a0_0 3))) x233002_1 x233003_2 x233004_4 = some (r1, r2, r3, r4, r5, r6, r7, r8, r9, r10)) ∧ Aside0 (kq ≤ k3) ∧ Aside0 (Kd.R Kd.string 9 w' w.heap.size (fun k_ => some k_ ≠ (u233003 : Value).ownBlock) u233002 x233002_1) ∧ Aside0 (Kd.R Kd.string 9 w' w.heap.size (fun k_ => some k_ ≠ (u233002 : Value).ownBlock) u233003 x233003_2) ∧ Aside0 (Kd.S k64 64 w' w.heap.size (fun _ => True) u233004 x233004_4) ∧ Aside0 (w'.heap[gb229]? = some (.cells #[.int .i64 a0_0, .int .i64 a0_1, .int .i64 a0_2, (.slice A0_3 l0_3.length c0_3), (.slice A0_4 l0_4.length c0_4)] 45 (0, 0))) ∧ Aside0 (w'.heap[gb230]? = some (.cells #[.int .i64 0, .int .i64 0, (.slice none 0 0), (.slice none 0 0), (.slice none 0 0)] 26 (0, 0))) ∧ Aside0 (w'.heap[gb231]? = some (.cells #[.int .i64 0, .int .i64 0, (.slice none 0 0), (.slice none 0 0), (.slice none 0 0)] 48 (0, 0))) ∧ Aside0 (w'.heap[gb232]? = some (.cells #[.int .i64 (Int.tmod (wrap64 ((Int.tmod a0_2 (wrap64 (1 + (Go.bits .and .i64 a0_0 3)))) + (wrap64 (1 + (Go.bits .and .i64 a0_0 3))))) (wrap64 (1 + (Go.bits .and .i64 a0_0 3)))), .int .i64 (wrap64 (1 + (Go.bits .and .i64 a0_0 3))), u233002, u233003, u233004] 48 (0, 0))) ∧ Aside0 (Below w.heap.size w w'))
                      case atStart => exact ⟨(0), (x233004_3), (u233004), (by first | rfl | (simp; done) | (simp [*]; done)), H', ⟨Nat.le_refl _⟩, ⟨by (with_reducible repeat (first | apply Kd.R_alloc | apply Kd.R_drewN | apply Kd.R_drew)); exact HO_233002.out⟩, ⟨by (with_reducible repeat (first | apply Kd.R_alloc | apply Kd.R_drewN | apply Kd.R_drew)); exact HO_233003.out⟩, ⟨by (with_reducible repeat (first | apply Kd.S_alloc | apply Kd.S_drewN | apply Kd.S_drew)); exact HO_233004.out⟩, ⟨by (with_reducible repeat (first | refine blk_drewN ?_ _ | refine blk_drew ?_ | refine blk_alloc ?_ _)); exact BK229.out⟩, ⟨by (with_reducible repeat (first | refine blk_drewN ?_ _ | refine blk_drew ?_ | refine blk_alloc ?_ _)); exact BK230.out⟩, ⟨by (with_reducible repeat (first | refine blk_drewN ?_ _ | refine blk_drew ?_ | refine blk_alloc ?_ _)); exact BK231.out⟩, ⟨by (with_reducible repeat (first | refine blk_drewN ?_ _ | refine blk_drew ?_ | refine blk_alloc ?_ _)); exact BK232.out⟩, ⟨by repeat (first | (with_reducible first | exact HB.out | apply below_alloc | apply pw_below_drewN | apply below_drew1 | refine below_set ?_ GE229.out | refine below_set ?_ GE230.out | refine below_set ?_ GE231.out | refine below_set ?_ GE232.out) | exact HB.out)⟩⟩
                      case round =>
                        clear H'
                        try clear c1
                        try clear c2
                        try clear c2b0
                        try clear c2b1
                        try clear p2
                        try clear hcv2
                        try clear c3
                        try clear hcv3
                        try clear c6
                        try clear p6
                        try clear c7
                        try clear c10
                        try clear c11
                        try clear c12
                        try clear c14
                        try clear c14b0
                        try clear c15
                        try clear c16
                        try clear c17
                        try clear c18
                        try clear hcv22
                        try clear c26
                        try clear c26b0
                        try clear c27
                        try clear c28
                        try clear c29
                        try clear c30
                        try clear hcv34
                        try clear c38
                        try clear c38b0
                        try clear hcz13_0
                        try clear hcz13_1
                        try clear hcz13_2
                        try clear hcz13_3
                        try clear hcz13_4
                        try clear hcz19_0
                        try clear hcz19_1
                        try clear hcz19_2
                        try clear hcz19_3
                        try clear hcz19_4
                        try clear hcz25_0
                        try clear hcz25_1
                        try clear hcz25_2
                        try clear hcz25_3
                        try clear hcz25_4
                        try clear hcz31_0
                        try clear hcz31_1
                        try clear hcz31_2
                        try clear hcz31_3
                        try clear hcz31_4
                        try clear hcz37_0
                        try clear hcz37_1
                        try clear hcz37_2
                        try clear hcz37_3
                        try clear hcz37_4
                        try clear hcz8_0
                        try clear hcz8_1
                        try clear hcz8_2
                        try clear hcz8_3
                        try clear hcz8_4
                        try clear hfz13_0
                        try clear hfz13_1
                        try clear hfz13_2
                        try clear hfz13_3
                        try clear hfz13_4
                        try clear hfz19_0
                        try clear hfz19_1
                        try clear hfz19_2
                        try clear hfz19_3
                        try clear hfz19_4
                        try clear hfz25_0
                        try clear hfz25_1
                        try clear hfz25_2
                        try clear hfz25_3
                        try clear hfz25_4
                        try clear hfz31_0
                        try clear hfz31_1
                        try clear hfz31_2
                        try clear hfz31_3
                        try clear hfz31_4
                        try clear hfz37_0
                        try clear hfz37_1
                        try clear hfz37_2
                        try clear hfz37_3
                        try clear hfz37_4
                        try clear hfz8_0
                        try clear hfz8_1
                        try clear hfz8_2
                        try clear hfz8_3
                        try clear hfz8_4
                        try clear p2
                        try clear p6
                        obtain ⟨x10_4, x233004_4, u233004, rfl, HA, HK4, HO_233002, HO_233003, HO_233004, BK229, BK230, BK231, BK232, HB⟩ := hrel
                        cases gk with
                        | zero => exact absurd HA.out (by simp [primerlaw15_made.l3])
                        | succ k4 =>
                          have H := HA.out
                          clear HA
                          simp only [primerlaw15_made.l3] at H
                          have HC39 := Aside0.mk H
                          clear H
                          go_upto_region 15 with (fail)
                          repeat (go_quiet (fail); go_upto_region 15 with (fail))
                          go_cut [82] (fun v82 wc => ∃ (kq : Nat) (x82_38 : Bool), v82 = .bool x82_38 ∧ Aside0 (primerlaw15_made.j4 kq (wrap64 (1 + (Go.bits .and .i64 a0_0 3))) (Go.bits .and .i64 a0_1 3) x9_3 x10_4 x82_38 a0_0 a0_1 a0_2 l0_3 l0_4 (Int.tmod (wrap64 ((Int.tmod a0_2 (wrap64 (1 + (Go.bits .and .i64 a0_0 3)))) + (wrap64 (1 + (Go.bits .and .i64 a0_0 3))))) (wrap64 (1 + (Go.bits .and .i64 a0_0 3)))) (wrap64 (1 + (Go.bits .and .i64 a0_0 3))) x233002_1 x233003_2 x233004_4 = some (r1, r2, r3, r4, r5, r6, r7, r8, r9, r10)) ∧ Aside0 (kq ≤ k4) ∧ Aside0 (Kd.R Kd.string 9 wc w.heap.size (fun k_ => some k_ ≠ (u233003 : Value).ownBlock) u233002 x233002_1) ∧ Aside0 (Kd.R Kd.string 9 wc w.heap.size (fun k_ => some k_ ≠ (u233002 : Value).ownBlock) u233003 x233003_2) ∧ Aside0 (Kd.S k64 64 wc w.heap.size (fun _ => True) u233004 x233004_4) ∧ Aside0 (wc.heap[gb229]? = some (.cells #[.int .i64 a0_0, .int .i64 a0_1, .int .i64 a0_2, (.slice A0_3 l0_3.length c0_3), (.slice A0_4 l0_4.length c0_4)] 45 (0, 0))) ∧ Aside0 (wc.heap[gb230]? = some (.cells #[.int .i64 0, .int .i64 0, (.slice none 0 0), (.slice none 0 0), (.slice none 0 0)] 26 (0, 0))) ∧ Aside0 (wc.heap[gb231]? = some (.cells #[.int .i64 0, .int .i64 0, (.slice none 0 0), (.slice none 0 0), (.slice none 0 0)] 48 (0, 0))) ∧ Aside0 (wc.heap[gb232]? = some (.cells #[.int .i64 (Int.tmod (wrap64 ((Int.tmod a0_2 (wrap64 (1 + (Go.bits .and .i64 a0_0 3)))) + (wrap64 (1 + (Go.bits .and .i64 a0_0 3))))) (wrap64 (1 + (Go.bits .and .i64 a0_0 3)))), .int .i64 (wrap64 (1 + (Go.bits .and .i64 a0_0 3))), u233002, u233003, u233004] 48 (0, 0))) ∧ Aside0 (Below w.heap.size w wc))
                          case first =>
                            have H := HC39.out
                            clear HC39
                            by_cases c40 : x10_4 < (l0_3.length : Int)
                            · rw [if_pos c40] at H
                              have c40b0 : decide (x10_4 < (l0_3.length : Int)) = true := decide_eq_true c40
                              clear c40
                              (first | rw [c40b0] | (simp only [i64_w, i32_w]; rw [c40b0]) | skip)
                              by_cases c41 : x10_4 < (l0_4.length : Int)
                              · rw [if_pos c41] at H
                                have c41b0 : decide (x10_4 < (l0_4.length : Int)) = true := decide_eq_true c41
                                clear c41
                                have H' := Aside0.mk H
                                clear H
                                have hnb42 := NB229_230.out
                                have hnc42 := NB230_229.out
                                have hnb43 := NB229_231.out
                                have hnc43 := NB231_229.out
                                have hnb44 := NB229_232.out
                                have hnc44 := NB232_229.out
                                have hcz45_0 : wr.cell? ⟨gb229, 0, none⟩ = some (.int .i64 a0_0) := (blk_cell BK229.out 0).trans rfl
                                have hcz45_1 : wr.cell? ⟨gb229, 1, none⟩ = some (.int .i64 a0_1) := (blk_cell BK229.out 1).trans rfl
                                have hcz45_2 : wr.cell? ⟨gb229, 2, none⟩ = some (.int .i64 a0_2) := (blk_cell BK229.out 2).trans rfl
                                have hcz45_3 : wr.cell? ⟨gb229, 3, none⟩ = some (.slice A0_3 l0_3.length c0_3) := (blk_cell BK229.out 3).trans rfl
                                have hcz45_4 : wr.cell? ⟨gb229, 4, none⟩ = some (.slice A0_4 l0_4.length c0_4) := (blk_cell BK229.out 4).trans rfl
                                have hfz45_0 := blk_frozen BK229.out 0
                                have hfz45_1 := blk_frozen BK229.out 1
                                have hfz45_2 := blk_frozen BK229.out 2
                                have hfz45_3 := blk_frozen BK229.out 3
                                have hfz45_4 := blk_frozen BK229.out 4
                                go_wp2
                                repeat (go_quiet (fail); try go_wp2)
                                go_meet
                                case rel => exact ⟨_, (decide (x10_4 < 12)), (by first | rfl | (simp; done) | (simp [*]; done)), H', ⟨by have := HK1.out; have := HK2.out; have := HK3.out; have := HK4.out; first | omega | exact Nat.le_refl _⟩, ⟨by (with_reducible repeat (first | apply Kd.R_alloc | apply Kd.R_drewN | apply Kd.R_drew)); exact HO_233002.out⟩, ⟨by (with_reducible repeat (first | apply Kd.R_alloc | apply Kd.R_drewN | apply Kd.R_drew)); exact HO_233003.out⟩, ⟨by (with_reducible repeat (first | apply Kd.S_alloc | apply Kd.S_drewN | apply Kd.S_drew)); exact HO_233004.out⟩, ⟨by (with_reducible repeat (first | refine blk_drewN ?_ _ | refine blk_drew ?_ | refine blk_alloc ?_ _)); exact BK229.out⟩, ⟨by (with_reducible repeat (first | refine blk_drewN ?_ _ | refine blk_drew ?_ | refine blk_alloc ?_ _)); exact BK230.out⟩, ⟨by (with_reducible repeat (first | refine blk_drewN ?_ _ | refine blk_drew ?_ | refine blk_alloc ?_ _)); exact BK231.out⟩, ⟨by (with_reducible repeat (first | refine blk_drewN ?_ _ | refine blk_drew ?_ | refine blk_alloc ?_ _)); exact BK232.out⟩, ⟨by repeat (first | (with_reducible first | exact HB.out | apply below_alloc | apply pw_below_drewN | apply below_drew1 | refine below_set ?_ GE229.out | refine below_set ?_ GE230.out | refine below_set ?_ GE231.out | refine below_set ?_ GE232.out) | exact HB.out)⟩⟩
                              · rw [if_neg c41] at H
                                have c41b0 : decide (x10_4 < (l0_4.length : Int)) = false := decide_eq_false c41
                                clear c41
                                have H' := Aside0.mk H
                                clear H
                                have hnb46 := NB229_230.out
                                have hnc46 := NB230_229.out
                                have hnb47 := NB229_231.out
                                have hnc47 := NB231_229.out
                                have hnb48 := NB229_232.out
                                have hnc48 := NB232_229.out
                                have hcz49_0 : wr.cell? ⟨gb229, 0, none⟩ = some (.int .i64 a0_0) := (blk_cell BK229.out 0).trans rfl
                                have hcz49_1 : wr.cell? ⟨gb229, 1, none⟩ = some (.int .i64 a0_1) := (blk_cell BK229.out 1).trans rfl
                                have hcz49_2 : wr.cell? ⟨gb229, 2, none⟩ = some (.int .i64 a0_2) := (blk_cell BK229.out 2).trans rfl
                                have hcz49_3 : wr.cell? ⟨gb229, 3, none⟩ = some (.slice A0_3 l0_3.length c0_3) := (blk_cell BK229.out 3).trans rfl
                                have hcz49_4 : wr.cell? ⟨gb229, 4, none⟩ = some (.slice A0_4 l0_4.length c0_4) := (blk_cell BK229.out 4).trans rfl
                                have hfz49_0 := blk_frozen BK229.out 0
                                have hfz49_1 := blk_frozen BK229.out 1
                                have hfz49_2 := blk_frozen BK229.out 2
                                have hfz49_3 := blk_frozen BK229.out 3
                                have hfz49_4 := blk_frozen BK229.out 4
                                go_wp2
                                repeat (go_quiet (fail); try go_wp2)
                                go_meet
                                case rel => exact ⟨_, (false), (by first | rfl | (simp; done) | (simp [*]; done)), H', ⟨by have := HK1.out; have := HK2.out; have := HK3.out; have := HK4.out; first | omega | exact Nat.le_refl _⟩, ⟨by (with_reducible repeat (first | apply Kd.R_alloc | apply Kd.R_drewN | apply Kd.R_drew)); exact HO_233002.out⟩, ⟨by (with_reducible repeat (first | apply Kd.R_alloc | apply Kd.R_drewN | apply Kd.R_drew)); exact HO_233003.out⟩, ⟨by (with_reducible repeat (first | apply Kd.S_alloc | apply Kd.S_drewN | apply Kd.S_drew)); exact HO_233004.out⟩, ⟨by (with_reducible repeat (first | refine blk_drewN ?_ _ | refine blk_drew ?_ | refine blk_alloc ?_ _)); exact BK229.out⟩, ⟨by (with_reducible repeat (first | refine blk_drewN ?_ _ | refine blk_drew ?_ | refine blk_alloc ?_ _)); exact BK230.out⟩, ⟨by (with_reducible repeat (first | refine blk_drewN ?_ _ | refine blk_drew ?_ | refine blk_alloc ?_ _)); exact BK231.out⟩, ⟨by (with_reducible repeat (first | refine blk_drewN ?_ _ | refine blk_drew ?_ | refine blk_alloc ?_ _)); exact BK232.out⟩, ⟨by repeat (first | (with_reducible first | exact HB.out | apply below_alloc | apply pw_below_drewN | apply below_drew1 | refine below_set ?_ GE229.out | refine below_set ?_ GE230.out | refine below_set ?_ GE231.out | refine below_set ?_ GE232.out) | exact HB.out)⟩⟩
                            · rw [if_neg c40] at H
                              have c40b0 : decide (x10_4 < (l0_3.length : Int)) = false := decide_eq_false c40
                              clear c40
                              (first | rw [c40b0] | (simp only [i64_w, i32_w]; rw [c40b0]) | skip)
                              have H' := Aside0.mk H
                              clear H
                              have hnb50 := NB229_230.out
                              have hnc50 := NB230_229.out
                              have hnb51 := NB229_231.out
                              have hnc51 := NB231_229.out
                              have hnb52 := NB229_232.out
                              have hnc52 := NB232_229.out
                              have hcz53_0 : wr.cell? ⟨gb229, 0, none⟩ = some (.int .i64 a0_0) := (blk_cell BK229.out 0).trans rfl
                              have hcz53_1 : wr.cell? ⟨gb229, 1, none⟩ = some (.int .i64 a0_1) := (blk_cell BK229.out 1).trans rfl
                              have hcz53_2 : wr.cell? ⟨gb229, 2, none⟩ = some (.int .i64 a0_2) := (blk_cell BK229.out 2).trans rfl
                              have hcz53_3 : wr.cell? ⟨gb229, 3, none⟩ = some (.slice A0_3 l0_3.length c0_3) := (blk_cell BK229.out 3).trans rfl
                              have hcz53_4 : wr.cell? ⟨gb229, 4, none⟩ = some (.slice A0_4 l0_4.length c0_4) := (blk_cell BK229.out 4).trans rfl
                              have hfz53_0 := blk_frozen BK229.out 0
                              have hfz53_1 := blk_frozen BK229.out 1
                              have hfz53_2 := blk_frozen BK229.out 2
                              have hfz53_3 := blk_frozen BK229.out 3
                              have hfz53_4 := blk_frozen BK229.out 4
                              go_wp2
                              repeat (go_quiet (fail); try go_wp2)
                              go_meet
                              case rel => exact ⟨_, (false), (by first | rfl | (simp; done) | (simp [*]; done)), H', ⟨by have := HK1.out; have := HK2.out; have := HK3.out; have := HK4.out; first | omega | exact Nat.le_refl _⟩, ⟨by (with_reducible repeat (first | apply Kd.R_alloc | apply Kd.R_drewN | apply Kd.R_drew)); exact HO_233002.out⟩, ⟨by (with_reducible repeat (first | apply Kd.R_alloc | apply Kd.R_drewN | apply Kd.R_drew)); exact HO_233003.out⟩, ⟨by (with_reducible repeat (first | apply Kd.S_alloc | apply Kd.S_drewN | apply Kd.S_drew)); exact HO_233004.out⟩, ⟨by (with_reducible repeat (first | refine blk_drewN ?_ _ | refine blk_drew ?_ | refine blk_alloc ?_ _)); exact BK229.out⟩, ⟨by (with_reducible repeat (first | refine blk_drewN ?_ _ | refine blk_drew ?_ | refine blk_alloc ?_ _)); exact BK230.out⟩, ⟨by (with_reducible repeat (first | refine blk_drewN ?_ _ | refine blk_drew ?_ | refine blk_alloc ?_ _)); exact BK231.out⟩, ⟨by (with_reducible repeat (first | refine blk_drewN ?_ _ | refine blk_drew ?_ | refine blk_alloc ?_ _)); exact BK232.out⟩, ⟨by repeat (first | (with_reducible first | exact HB.out | apply below_alloc | apply pw_below_drewN | apply below_drew1 | refine below_set ?_ GE229.out | refine below_set ?_ GE230.out | refine below_set ?_ GE231.out | refine below_set ?_ GE232.out) | exact HB.out)⟩⟩
                          case rest =>
                            clear HC39
                            try clear c1
                            try clear c2
                            try clear c2b0
                            try clear c2b1
                            try clear p2
                            try clear hcv2
                            try clear c3
                            try clear hcv3
                            try clear c4
                            try clear c5
                            try clear c6
                            try clear p6
                            try clear c7
                            try clear c10
                            try clear c11
                            try clear c12
                            try clear c14
                            try clear c14b0
                            try clear c15
                            try clear c16
                            try clear c17
                            try clear c18
                            try clear hcv22
                            try clear c26
                            try clear c26b0
                            try clear c27
                            try clear c28
                            try clear c29
                            try clear c30
                            try clear hcv34
                            try clear c38
                            try clear c38b0
                            try clear c40
                            try clear c40b0
                            try clear c41
                            try clear c41b0
                            try clear c42
                            try clear c43
                            try clear c44
                            try clear c46
                            try clear c47
                            try clear c48
                            try clear c50
                            try clear c51
                            try clear c52
                            try clear hcz13_0
                            try clear hcz13_1
                            try clear hcz13_2
                            try clear hcz13_3
                            try clear hcz13_4
                            try clear hcz19_0
                            try clear hcz19_1
                            try clear hcz19_2
                            try clear hcz19_3
                            try clear hcz19_4
                            try clear hcz25_0
                            try clear hcz25_1
                            try clear hcz25_2
                            try clear hcz25_3
                            try clear hcz25_4
                            try clear hcz31_0
                            try clear hcz31_1
                            try clear hcz31_2
                            try clear hcz31_3
                            try clear hcz31_4
                            try clear hcz37_0
                            try clear hcz37_1
                            try clear hcz37_2
                            try clear hcz37_3
                            try clear hcz37_4
                            try clear hcz45_0
                            try clear hcz45_1
                            try clear hcz45_2
                            try clear hcz45_3
                            try clear hcz45_4
                            try clear hcz49_0
                            try clear hcz49_1
                            try clear hcz49_2
                            try clear hcz49_3
                            try clear hcz49_4
                            try clear hcz53_0
                            try clear hcz53_1
                            try clear hcz53_2
                            try clear hcz53_3
                            try clear hcz53_4
                            try clear hcz8_0
                            try clear hcz8_1
                            try clear hcz8_2
                            try clear hcz8_3
                            try clear hcz8_4
                            try clear hfz13_0
                            try clear hfz13_1
                            try clear hfz13_2
                            try clear hfz13_3
                            try clear hfz13_4
                            try clear hfz19_0
                            try clear hfz19_1
                            try clear hfz19_2
                            try clear hfz19_3
                            try clear hfz19_4
                            try clear hfz25_0
                            try clear hfz25_1
                            try clear hfz25_2
                            try clear hfz25_3
                            try clear hfz25_4
                            try clear hfz31_0
                            try clear hfz31_1
                            try clear hfz31_2
                            try clear hfz31_3
                            try clear hfz31_4
                            try clear hfz37_0
                            try clear hfz37_1
                            try clear hfz37_2
                            try clear hfz37_3
                            try clear hfz37_4
                            try clear hfz45_0
                            try clear hfz45_1
                            try clear hfz45_2
                            try clear hfz45_3
                            try clear hfz45_4
                            try clear hfz49_0
                            try clear hfz49_1
                            try clear hfz49_2
                            try clear hfz49_3
                            try clear hfz49_4
                            try clear hfz53_0
                            try clear hfz53_1
                            try clear hfz53_2
                            try clear hfz53_3
                            try clear hfz53_4
                            try clear hfz8_0
                            try clear hfz8_1
                            try clear hfz8_2
                            try clear hfz8_3
                            try clear hfz8_4
                            try clear p2
                            try clear p6
                            obtain ⟨kq, x82_38, rfl, HA, HJ38, HO_233002, HO_233003, HO_233004, BK229, BK230, BK231, BK232, HB⟩ := hcut
                            cases kq with
                            | zero => exact absurd HA.out (by simp [primerlaw15_made.j4])
                            | succ kj38 =>
                              have H := HA.out
                              clear HA
                              simp only [primerlaw15_made.j4] at H
                              by_cases c54 : x82_38 = true
                              · subst c54
                                have H1 : (if 0 ≤ x10_4 then (if x10_4 < (l0_3.length : Int) then (if (wrap64 (1 + (Go.bits .and .i64 a0_0 3))) = 0 then (none) else (if (Int.tmod (wrap64 ((Int.tmod (rd l0_3 x10_4) (wrap64 (1 + (Go.bits .and .i64 a0_0 3)))) + (wrap64 (1 + (Go.bits .and .i64 a0_0 3))))) (wrap64 (1 + (Go.bits .and .i64 a0_0 3)))) = x9_3 then (primerlaw15_made.l4 kj38 (wrap64 (1 + (Go.bits .and .i64 a0_0 3))) (Go.bits .and .i64 a0_1 3) x9_3 x10_4 ([] : List Int) 0 a0_0 a0_1 a0_2 l0_3 l0_4 (Int.tmod (wrap64 ((Int.tmod a0_2 (wrap64 (1 + (Go.bits .and .i64 a0_0 3)))) + (wrap64 (1 + (Go.bits .and .i64 a0_0 3))))) (wrap64 (1 + (Go.bits .and .i64 a0_0 3)))) (wrap64 (1 + (Go.bits .and .i64 a0_0 3))) x233002_1 x233003_2 x233004_4) else (primerlaw15_made.l3 kj38 (wrap64 (1 + (Go.bits .and .i64 a0_0 3))) (Go.bits .and .i64 a0_1 3) x9_3 (wrap64 (x10_4 + 1)) a0_0 a0_1 a0_2 l0_3 l0_4 (Int.tmod (wrap64 ((Int.tmod a0_2 (wrap64 (1 + (Go.bits .and .i64 a0_0 3)))) + (wrap64 (1 + (Go.bits .and .i64 a0_0 3))))) (wrap64 (1 + (Go.bits .and .i64 a0_0 3)))) (wrap64 (1 + (Go.bits .and .i64 a0_0 3))) x233002_1 x233003_2 x233004_4))) else (none)) else (none)) = some (r1, r2, r3, r4, r5, r6, r7, r8, r9, r10) := by rw [if_pos rfl] at H; exact H
                                clear H
                                have H := H1
                                clear H1
                                by_cases c55 : 0 ≤ x10_4
                                · rw [if_pos c55] at H
                                  have c55b0 : decide (0 ≤ x10_4) = true := decide_eq_true c55
                                  clear c55
                                  by_cases c56 : x10_4 < (l0_3.length : Int)
                                  · rw [if_pos c56] at H
                                    have c56b0 : decide (x10_4 < (l0_3.length : Int)) = true := decide_eq_true c56
                                    clear c56
                                    by_cases c57 : (wrap64 (1 + (Go.bits .and .i64 a0_0 3))) = 0
                                    · rw [if_pos c57] at H
                                      exact absurd H (by simp)
                                    · rw [if_neg c57] at H
                                      have c57b0 : ((wrap64 (1 + (Go.bits .and .i64 a0_0 3))) == 0) = false := beq_eq_false_iff_ne.mpr c57
                                      have c57b1 : ((wrap64 (1 + (Go.bits .and .i64 a0_0 3))) != 0) = true := bne_iff_ne.mpr c57
                                      by_cases c58 : (Int.tmod (wrap64 ((Int.tmod (rd l0_3 x10_4) (wrap64 (1 + (Go.bits .and .i64 a0_0 3)))) + (wrap64 (1 + (Go.bits .and .i64 a0_0 3))))) (wrap64 (1 + (Go.bits .and .i64 a0_0 3)))) = x9_3
                                      · rw [if_pos c58] at H
                                        have c58b0 : ((Int.tmod (wrap64 ((Int.tmod (rd l0_3 x10_4) (wrap64 (1 + (Go.bits .and .i64 a0_0 3)))) + (wrap64 (1 + (Go.bits .and .i64 a0_0 3))))) (wrap64 (1 + (Go.bits .and .i64 a0_0 3)))) == x9_3) = true := beq_iff_eq.mpr c58
                                        have c58b1 : ((Int.tmod (wrap64 ((Int.tmod (rd l0_3 x10_4) (wrap64 (1 + (Go.bits .and .i64 a0_0 3)))) + (wrap64 (1 + (Go.bits .and .i64 a0_0 3))))) (wrap64 (1 + (Go.bits .and .i64 a0_0 3)))) != x9_3) = false := bne_eq_false_iff_eq.mpr c58
                                        clear c58
                                        have H' := Aside0.mk H
                                        clear H
                                        have hnb59 := NB229_230.out
                                        have hnc59 := NB230_229.out
                                        have hnb60 := NB229_231.out
                                        have hnc60 := NB231_229.out
                                        have hnb61 := NB229_232.out
                                        have hnc61 := NB232_229.out
                                        have hcz62_0 : wc.cell? ⟨gb229, 0, none⟩ = some (.int .i64 a0_0) := (blk_cell BK229.out 0).trans rfl
                                        have hcz62_1 : wc.cell? ⟨gb229, 1, none⟩ = some (.int .i64 a0_1) := (blk_cell BK229.out 1).trans rfl
                                        have hcz62_2 : wc.cell? ⟨gb229, 2, none⟩ = some (.int .i64 a0_2) := (blk_cell BK229.out 2).trans rfl
                                        have hcz62_3 : wc.cell? ⟨gb229, 3, none⟩ = some (.slice A0_3 l0_3.length c0_3) := (blk_cell BK229.out 3).trans rfl
                                        have hcz62_4 : wc.cell? ⟨gb229, 4, none⟩ = some (.slice A0_4 l0_4.length c0_4) := (blk_cell BK229.out 4).trans rfl
                                        have hfz62_0 := blk_frozen BK229.out 0
                                        have hfz62_1 := blk_frozen BK229.out 1
                                        have hfz62_2 := blk_frozen BK229.out 2
                                        have hfz62_3 := blk_frozen BK229.out 3
                                        have hfz62_4 := blk_frozen BK229.out 4
                                        have p245 : 0 ≤ (x10_4 : Int) := of_decide_eq_true (by first | (with_reducible assumption) | assumption)
                                        have q245 : x10_4 < (l0_3.length : Int) := of_decide_eq_true (by first | (with_reducible assumption) | assumption)
                                        obtain ⟨ad245, e245, hx245_0⟩ := Kd.at_int HR0_3.out x10_4 p245 q245
                                        cases e245
                                        replace hx245_0 := (HB.out.cell (World.block_lt_of_cell? w _ hx245_0)).trans hx245_0
                                        replace p245 := eq_true p245
                                        replace q245 := eq_true q245
                                        go_wp2
                                        repeat (go_quiet (fail); try go_wp2)
                                        go_loopg [11, 12] kj38 (fun kq v11 v12 w' => ∃ (x11_6 : List Int) (x12_6 : Int), v12 = .int .i64 x12_6 ∧ Aside0 (primerlaw15_made.l4 kq (wrap64 (1 + (Go.bits .and .i64 a0_0 3))) (Go.bits .and .i64 a0_1 3) x9_3 x10_4 x11_6 x12_6 a0_0 a0_1 a0_2 l0_3 l0_4 (Int.tmod (wrap64 ((Int.tmod a0_2 (wrap64 (1 + (Go.bits .and .i64 a0_0 3)))) + (wrap64 (1 + (Go.bits .and .i64 a0_0 3))))) (wrap64 (1 + (Go.bits .and .i64 a0_0 3)))) (wrap64 (1 + (Go.bits .and .i64 a0_0 3))) x233002_1 x233003_2 x233004_4 = some (r1, r2, r3, r4, r5, r6, r7, r8, r9, r10)) ∧ Aside0 (kq ≤ kj38) ∧ Aside0 (Kd.R (Kd.int .i64) 3 w' w.heap.size (fun _ => True) v11 x11_6) ∧ Aside0 (Kd.R Kd.string 9 w' w.heap.size (fun k_ => some k_ ≠ (u233003 : Value).ownBlock) u233002 x233002_1) ∧ Aside0 (Kd.R Kd.string 9 w' w.heap.size (fun k_ => some k_ ≠ (u233002 : Value).ownBlock) u233003 x233003_2) ∧ Aside0 (Kd.S k64 64 w' w.heap.size (fun k_ => some k_ ≠ (v11 : Value).ownBlock) u233004 x233004_4) ∧ Aside0 (w'.heap[gb229]? = some (.cells #[.int .i64 a0_0, .int .i64 a0_1, .int .i64 a0_2, (.slice (some ad245) l0_3.length c0_3), (.slice A0_4 l0_4.length c0_4)] 45 (0, 0))) ∧ Aside0 (w'.heap[gb230]? = some (.cells #[.int .i64 0, .int .i64 0, (.slice none 0 0), (.slice none 0 0), (.slice none 0 0)] 26 (0, 0))) ∧ Aside0 (w'.heap[gb231]? = some (.cells #[.int .i64 0, .int .i64 0, (.slice none 0 0), (.slice none 0 0), (.slice none 0 0)] 48 (0, 0))) ∧ Aside0 (w'.heap[gb232]? = some (.cells #[.int .i64 (Int.tmod (wrap64 ((Int.tmod a0_2 (wrap64 (1 + (Go.bits .and .i64 a0_0 3)))) + (wrap64 (1 + (Go.bits .and .i64 a0_0 3))))) (wrap64 (1 + (Go.bits .and .i64 a0_0 3)))), .int .i64 (wrap64 (1 + (Go.bits .and .i64 a0_0 3))), u233002, u233003, u233004] 48 (0, 0))) ∧ Aside0 (Below w.heap.size w w'))
                                        case atStart => exact ⟨(([] : List Int)), (0), (by first | rfl | (simp; done) | (simp [*]; done)), H', ⟨Nat.le_refl _⟩, ⟨by first | exact Kd.R_nil _ _ _ _ _ | exact Kd.N_nil _ _ _ _ _ | exact Kd.V_nil _ _ _ _ _ | exact Kd.Q_nil _ _ _ _ _ | exact Kd.S_nil _ _ _ _ _⟩, ⟨by (with_reducible repeat (first | apply Kd.R_alloc | apply Kd.R_drewN | apply Kd.R_drew)); exact HO_233002.out⟩, ⟨by (with_reducible repeat (first | apply Kd.R_alloc | apply Kd.R_drewN | apply Kd.R_drew)); exact HO_233003.out⟩, ⟨by (with_reducible repeat (first | apply Kd.S_alloc | apply Kd.S_drewN | apply Kd.S_drew)); exact Kd.S_mono HO_233004.out (fun _ hk => (by simp [Value.ownBlock]))⟩, ⟨by (with_reducible repeat (first | refine blk_drewN ?_ _ | refine blk_drew ?_ | refine blk_alloc ?_ _)); exact BK229.out⟩, ⟨by (with_reducible repeat (first | refine blk_drewN ?_ _ | refine blk_drew ?_ | refine blk_alloc ?_ _)); exact BK230.out⟩, ⟨by (with_reducible repeat (first | refine blk_drewN ?_ _ | refine blk_drew ?_ | refine blk_alloc ?_ _)); exact BK231.out⟩, ⟨by (with_reducible repeat (first | refine blk_drewN ?_ _ | refine blk_drew ?_ | refine blk_alloc ?_ _)); exact BK232.out⟩, ⟨by repeat (first | (with_reducible first | exact HB.out | apply below_alloc | apply pw_below_drewN | apply below_drew1 | refine below_set ?_ GE229.out | refine below_set ?_ GE230.out | refine below_set ?_ GE231.out | refine below_set ?_ GE232.out) | exact HB.out)⟩⟩
                                        case round =>
                                          clear H'
                                          try clear c1
                                          try clear c2
                                          try clear c2b0
                                          try clear c2b1
                                          try clear p2
                                          try clear q2
                                          try clear hx2
                                          try clear hcv2
                                          try clear c3
                                          try clear hcv3
                                          try clear c4
                                          try clear c5
                                          try clear c6
                                          try clear p6
                                          try clear c7
                                          try clear c10
                                          try clear c11
                                          try clear c12
                                          try clear c14
                                          try clear c14b0
                                          try clear c15
                                          try clear c16
                                          try clear c17
                                          try clear c18
                                          try clear hcv22
                                          try clear p24
                                          try clear q24
                                          try clear hx24
                                          try clear c26
                                          try clear c26b0
                                          try clear c27
                                          try clear c28
                                          try clear c29
                                          try clear c30
                                          try clear hcv34
                                          try clear c38
                                          try clear c38b0
                                          try clear c40
                                          try clear c40b0
                                          try clear c41
                                          try clear c41b0
                                          try clear c42
                                          try clear c43
                                          try clear c44
                                          try clear c46
                                          try clear c47
                                          try clear c48
                                          try clear c50
                                          try clear c51
                                          try clear c52
                                          try clear c54
                                          try clear c55
                                          try clear c55b0
                                          try clear c56
                                          try clear c56b0
                                          try clear c57
                                          try clear c57b0
                                          try clear c57b1
                                          try clear c58
                                          try clear c58b0
                                          try clear c58b1
                                          try clear c59
                                          try clear c60
                                          try clear c61
                                          try clear hcz13_0
                                          try clear hcz13_1
                                          try clear hcz13_2
                                          try clear hcz13_3
                                          try clear hcz13_4
                                          try clear hcz19_0
                                          try clear hcz19_1
                                          try clear hcz19_2
                                          try clear hcz19_3
                                          try clear hcz19_4
                                          try clear hcz25_0
                                          try clear hcz25_1
                                          try clear hcz25_2
                                          try clear hcz25_3
                                          try clear hcz25_4
                                          try clear hcz31_0
                                          try clear hcz31_1
                                          try clear hcz31_2
                                          try clear hcz31_3
                                          try clear hcz31_4
                                          try clear hcz37_0
                                          try clear hcz37_1
                                          try clear hcz37_2
                                          try clear hcz37_3
                                          try clear hcz37_4
                                          try clear hcz45_0
                                          try clear hcz45_1
                                          try clear hcz45_2
                                          try clear hcz45_3
                                          try clear hcz45_4
                                          try clear hcz49_0
                                          try clear hcz49_1
                                          try clear hcz49_2
                                          try clear hcz49_3
                                          try clear hcz49_4
                                          try clear hcz53_0
                                          try clear hcz53_1
                                          try clear hcz53_2
                                          try clear hcz53_3
                                          try clear hcz53_4
                                          try clear hcz62_0
                                          try clear hcz62_1
                                          try clear hcz62_2
                                          try clear hcz62_3
                                          try clear hcz62_4
                                          try clear hcz8_0
                                          try clear hcz8_1
                                          try clear hcz8_2
                                          try clear hcz8_3
                                          try clear hcz8_4
                                          try clear hfz13_0
                                          try clear hfz13_1
                                          try clear hfz13_2
                                          try clear hfz13_3
                                          try clear hfz13_4
                                          try clear hfz19_0
                                          try clear hfz19_1
                                          try clear hfz19_2
                                          try clear hfz19_3
                                          try clear hfz19_4
                                          try clear hfz25_0
                                          try clear hfz25_1
                                          try clear hfz25_2
                                          try clear hfz25_3
                                          try clear hfz25_4
                                          try clear hfz31_0
                                          try clear hfz31_1
                                          try clear hfz31_2
                                          try clear hfz31_3
                                          try clear hfz31_4
                                          try clear hfz37_0
                                          try clear hfz37_1
                                          try clear hfz37_2
                                          try clear hfz37_3
                                          try clear hfz37_4
                                          try clear hfz45_0
                                          try clear hfz45_1
                                          try clear hfz45_2
                                          try clear hfz45_3
                                          try clear hfz45_4
                                          try clear hfz49_0
                                          try clear hfz49_1
                                          try clear hfz49_2
                                          try clear hfz49_3
                                          try clear hfz49_4
                                          try clear hfz53_0
                                          try clear hfz53_1
                                          try clear hfz53_2
                                          try clear hfz53_3
                                          try clear hfz53_4
                                          try clear hfz62_0
                                          try clear hfz62_1
                                          try clear hfz62_2
                                          try clear hfz62_3
                                          try clear hfz62_4
                                          try clear hfz8_0
                                          try clear hfz8_1
                                          try clear hfz8_2
                                          try clear hfz8_3
                                          try clear hfz8_4
                                          try clear hx245_0
                                          try clear p2
                                          try clear p245
                                          try clear p6
                                          try clear q245
                                          obtain ⟨x11_6, x12_6, rfl, HA, HK6, HO_11, HO_233002, HO_233003, HO_233004, BK229, BK230, BK231, BK232, HB⟩ := hrel
                                          cases gk with
                                          | zero => exact absurd HA.out (by simp [primerlaw15_made.l4])
                                          | succ k6 =>
                                            have H := HA.out
                                            clear HA
                                            simp only [primerlaw15_made.l4] at H
                                            by_cases c63 : 0 ≤ x10_4
                                            · rw [if_pos c63] at H
                                              have c63b0 : decide (0 ≤ x10_4) = true := decide_eq_true c63
                                              clear c63
                                              by_cases c64 : x10_4 < (l0_4.length : Int)
                                              · rw [if_pos c64] at H
                                                have c64b0 : decide (x10_4 < (l0_4.length : Int)) = true := decide_eq_true c64
                                                clear c64
                                                by_cases c65 : x12_6 < ((rd_L2 l0_4 x10_4).length : Int)
                                                · rw [if_pos c65] at H
                                                  have c65b0 : decide (x12_6 < ((rd_L2 l0_4 x10_4).length : Int)) = true := decide_eq_true c65
                                                  clear c65
                                                  by_cases c66 : x12_6 < 4
                                                  · rw [if_pos c66] at H
                                                    have c66b0 : decide (x12_6 < 4) = true := decide_eq_true c66
                                                    clear c66
                                                    by_cases c67 : 0 ≤ x12_6
                                                    · rw [if_pos c67] at H
                                                      have c67b0 : decide (0 ≤ x12_6) = true := decide_eq_true c67
                                                      clear c67
                                                      by_cases c68 : (wrap64 ((wrap64 (1 + (Go.bits .and .i64 a0_0 3))) + (Go.bits .and .i64 a0_1 3))) = 0
                                                      · rw [if_pos c68] at H
                                                        exact absurd H (by simp)
                                                      · rw [if_neg c68] at H
                                                        have c68b0 : ((wrap64 ((wrap64 (1 + (Go.bits .and .i64 a0_0 3))) + (Go.bits .and .i64 a0_1 3))) == 0) = false := beq_eq_false_iff_ne.mpr c68
                                                        have c68b1 : ((wrap64 ((wrap64 (1 + (Go.bits .and .i64 a0_0 3))) + (Go.bits .and .i64 a0_1 3))) != 0) = true := bne_iff_ne.mpr c68
                                                        by_cases c69 : x11_6.length < 17592186044416
                                                        · rw [if_pos c69] at H
                                                          have LMc69 := Aside0.mk c69
                                                          clear c69
                                                          obtain ⟨y249, hy249⟩ : ∃ y_ : List Int, y_ = (x11_6 ++ [wrap64 ((Int.tmod (wrap64 ((wrap64 ((Int.tmod (rd (rd_L2 l0_4 x10_4) x12_6) (wrap64 ((wrap64 (1 + (Go.bits .and .i64 a0_0 3))) + (Go.bits .and .i64 a0_1 3)))) + (wrap64 (1 + (Go.bits .and .i64 a0_0 3))))) + (Go.bits .and .i64 a0_1 3))) (wrap64 ((wrap64 (1 + (Go.bits .and .i64 a0_0 3))) + (Go.bits .and .i64 a0_1 3)))) - (Go.bits .and .i64 a0_1 3))]) := ⟨_, rfl⟩
                                                          replace H : (primerlaw15_made.l4 k6 (wrap64 (1 + (Go.bits .and .i64 a0_0 3))) (Go.bits .and .i64 a0_1 3) x9_3 x10_4 y249 (wrap64 (x12_6 + 1)) a0_0 a0_1 a0_2 l0_3 l0_4 (Int.tmod (wrap64 ((Int.tmod a0_2 (wrap64 (1 + (Go.bits .and .i64 a0_0 3)))) + (wrap64 (1 + (Go.bits .and .i64 a0_0 3))))) (wrap64 (1 + (Go.bits .and .i64 a0_0 3)))) (wrap64 (1 + (Go.bits .and .i64 a0_0 3))) x233002_1 x233003_2 x233004_4) = some (r1, r2, r3, r4, r5, r6, r7, r8, r9, r10) := by first | (rw [hy249]; with_reducible exact H) | (have H2_ := (Option.bind_some _ _).symm.trans H; rw [hy249]; with_reducible exact H2_) | (have H2_ := (Option.bind_some _ _).symm.trans H; with_reducible exact H2_) | with_reducible exact H | (rw [hy249]; exact H) | exact H
                                                          have Ny249 := Aside0.mk hy249
                                                          clear hy249
                                                          have H' := Aside0.mk H
                                                          clear H
                                                          have hnb70 := NB229_230.out
                                                          have hnc70 := NB230_229.out
                                                          have hnb71 := NB229_231.out
                                                          have hnc71 := NB231_229.out
                                                          have hnb72 := NB229_232.out
                                                          have hnc72 := NB232_229.out
                                                          have hcz73_0 : wr.cell? ⟨gb229, 0, none⟩ = some (.int .i64 a0_0) := (blk_cell BK229.out 0).trans rfl
                                                          have hcz73_1 : wr.cell? ⟨gb229, 1, none⟩ = some (.int .i64 a0_1) := (blk_cell BK229.out 1).trans rfl
                                                          have hcz73_2 : wr.cell? ⟨gb229, 2, none⟩ = some (.int .i64 a0_2) := (blk_cell BK229.out 2).trans rfl
                                                          have hcz73_3 : wr.cell? ⟨gb229, 3, none⟩ = some (.slice (some ad245) l0_3.length c0_3) := (blk_cell BK229.out 3).trans rfl
                                                          have hcz73_4 : wr.cell? ⟨gb229, 4, none⟩ = some (.slice A0_4 l0_4.length c0_4) := (blk_cell BK229.out 4).trans rfl
                                                          have hfz73_0 := blk_frozen BK229.out 0
                                                          have hfz73_1 := blk_frozen BK229.out 1
                                                          have hfz73_2 := blk_frozen BK229.out 2
                                                          have hfz73_3 := blk_frozen BK229.out 3
                                                          have hfz73_4 := blk_frozen BK229.out 4
                                                          have p246 : 0 ≤ (x10_4 : Int) := of_decide_eq_true (by first | (with_reducible assumption) | assumption)
                                                          have q246 : x10_4 < (l0_4.length : Int) := of_decide_eq_true (by first | (with_reducible assumption) | assumption)
                                                          obtain ⟨ad246, A246_0, c246_0, e246, hx246_0, hl246_0, hi246_0⟩ := at_L2 HR0_4.out x10_4 p246 q246
                                                          cases e246
                                                          replace hx246_0 := (HB.out.cell (World.block_lt_of_cell? w _ hx246_0)).trans hx246_0
                                                          have HR246_0 := Aside0.mk hi246_0
                                                          have HC246_0 := Aside0.mk hl246_0
                                                          clear hi246_0 hl246_0
                                                          replace p246 := eq_true p246
                                                          replace q246 := eq_true q246
                                                          have p247 : 0 ≤ (x10_4 : Int) := of_decide_eq_true (by first | (with_reducible assumption) | assumption)
                                                          have q247 : x10_4 < (l0_4.length : Int) := of_decide_eq_true (by first | (with_reducible assumption) | assumption)
                                                          obtain ⟨ad247, A247_0, c247_0, e247, hx247_0, hl247_0, hi247_0⟩ := at_L2 HR0_4.out x10_4 p247 q247
                                                          obtain rfl : ad246 = ad247 := (by injection e247)
                                                          replace hx247_0 := (HB.out.cell (World.block_lt_of_cell? w _ hx247_0)).trans hx247_0
                                                          have HR247_0 := Aside0.mk hi247_0
                                                          have HC247_0 := Aside0.mk hl247_0
                                                          clear hi247_0 hl247_0
                                                          replace p247 := eq_true p247
                                                          replace q247 := eq_true q247
                                                          have ea_ := Option.some.inj (hx246_0.symm.trans hx247_0)
                                                          injection ea_ with ea_ en_ ec_
                                                          subst ea_
                                                          subst ec_
                                                          clear en_
                                                          have p248 : 0 ≤ (x12_6 : Int) := of_decide_eq_true (by first | (with_reducible assumption) | assumption)
                                                          have q248 : x12_6 < ((rd_L2 l0_4 x10_4).length : Int) := of_decide_eq_true (by first | (with_reducible assumption) | assumption)
                                                          obtain ⟨ad248, e248, hx248_0⟩ := Kd.at_int HR247_0.out x12_6 p248 q248
                                                          cases e248
                                                          replace hx248_0 := (HB.out.cell (World.block_lt_of_cell? w _ hx248_0)).trans hx248_0
                                                          replace p248 := eq_true p248
                                                          replace q248 := eq_true q248
                                                          go_wp2_with (first | ((with_reducible refine gate_builtin (b := .append) (xs := #[.tmp 112, .tmp 135]) rfl ?_); (try (refine gate_guard (by rfl) ?_; dsimp only)); at_builtin; refine Kd.R_append (Kd.int .i64) (w0 := w) w.heap.size rfl (.tmp 112) (.tmp 135) 34 3 (.int .i64 0) 8 rfl Try.underlying34 info3 rfl (by decide) (by omega) u11 x11_6 (wrap64 ((Int.tmod (wrap64 ((wrap64 ((Int.tmod (rd (rd_L2 l0_4 x10_4) x12_6) (wrap64 ((wrap64 (1 + (Go.bits .and .i64 a0_0 3))) + (Go.bits .and .i64 a0_1 3)))) + (wrap64 (1 + (Go.bits .and .i64 a0_0 3))))) + (Go.bits .and .i64 a0_1 3))) (wrap64 ((wrap64 (1 + (Go.bits .and .i64 a0_0 3))) + (Go.bits .and .i64 a0_1 3)))) - (Go.bits .and .i64 a0_1 3))) [.int .i64 (wrap64 ((Int.tmod (wrap64 ((wrap64 ((Int.tmod (rd (rd_L2 l0_4 x10_4) x12_6) (wrap64 ((wrap64 (1 + (Go.bits .and .i64 a0_0 3))) + (Go.bits .and .i64 a0_1 3)))) + (wrap64 (1 + (Go.bits .and .i64 a0_0 3))))) + (Go.bits .and .i64 a0_1 3))) (wrap64 ((wrap64 (1 + (Go.bits .and .i64 a0_0 3))) + (Go.bits .and .i64 a0_1 3)))) - (Go.bits .and .i64 a0_1 3)))] (fun _ => True) (fun _ => False) rfl rfl ?aP (fun _ hk => hk.elim) ?aF ?aO ?aB ?aS ?aL ?_; (case aP => exact rfl); (case aB => exact (by repeat (first | (with_reducible first | exact HB.out | apply below_alloc | apply pw_below_drewN | apply below_drew1 | refine below_set ?_ GE229.out | refine below_set ?_ GE230.out | refine below_set ?_ GE231.out | refine below_set ?_ GE232.out) | exact HB.out))); (case aF => exact (fun _ _ => trivial)); (case aO => exact (by (with_reducible repeat (first | apply Kd.R_alloc | apply Kd.R_drewN | apply Kd.R_drew)); exact HO_11.out)); (case aS => exact (below_size (by repeat (first | (with_reducible first | exact HB.out | apply below_alloc | apply pw_below_drewN | apply below_drew1 | refine below_set ?_ GE229.out | refine below_set ?_ GE230.out | refine below_set ?_ GE231.out | refine below_set ?_ GE232.out) | exact HB.out)))); (case aL => have := LMc69.out; omega); intro v250 w74 ho hb hg hat; rw [← Ny249.out] at ho; have n0_ := Aside0.mk (Kd.R_over' (by (with_reducible repeat (first | apply Kd.R_alloc | apply Kd.R_drewN | apply Kd.R_drew)); exact HO_233002.out) (Kd.R_typed (by (with_reducible repeat (first | apply Kd.R_alloc | apply Kd.R_drewN | apply Kd.R_drew)); exact HO_11.out)) (by decide) hg); have n1_ := Aside0.mk (Kd.R_over' (by (with_reducible repeat (first | apply Kd.R_alloc | apply Kd.R_drewN | apply Kd.R_drew)); exact HO_233003.out) (Kd.R_typed (by (with_reducible repeat (first | apply Kd.R_alloc | apply Kd.R_drewN | apply Kd.R_drew)); exact HO_11.out)) (by decide) hg); have n2_ := Aside0.mk (Kd.S_after (ok := (fun _ => True)) (by (with_reducible repeat (first | apply Kd.S_alloc | apply Kd.S_drewN | apply Kd.S_drew)); exact Kd.S_mono HO_233004.out (fun _ hk => ⟨trivial, hk⟩)) hg hat); have n3_ := Aside0.mk (blk_grown (g := gb229) (o := .cells #[.int .i64 a0_0, .int .i64 a0_1, .int .i64 a0_2, .slice (some ad245) l0_3.length c0_3, .slice (some ad246) l0_4.length c0_4] 45 (0, 0)) (by (with_reducible repeat (first | refine blk_drewN ?_ _ | refine blk_drew ?_ | refine blk_alloc ?_ _)); exact BK229.out) hg (Kd.R_ne HO_11.out BK229.out (by decide))); have n4_ := Aside0.mk (blk_grown (g := gb230) (o := .cells #[.int .i64 0, .int .i64 0, .slice none 0 0, .slice none 0 0, .slice none 0 0] 26 (0, 0)) (by (with_reducible repeat (first | refine blk_drewN ?_ _ | refine blk_drew ?_ | refine blk_alloc ?_ _)); exact BK230.out) hg (Kd.R_ne HO_11.out BK230.out (by decide))); have n5_ := Aside0.mk (blk_grown (g := gb231) (o := .cells #[.int .i64 0, .int .i64 0, .slice none 0 0, .slice none 0 0, .slice none 0 0] 48 (0, 0)) (by (with_reducible repeat (first | refine blk_drewN ?_ _ | refine blk_drew ?_ | refine blk_alloc ?_ _)); exact BK231.out) hg (Kd.R_ne HO_11.out BK231.out (by decide))); have n6_ := Aside0.mk (blk_grown (g := gb232) (o := .cells #[.int .i64 (Int.tmod (wrap64 ((Int.tmod a0_2 (wrap64 (1 + (Go.bits .and .i64 a0_0 3)))) + (wrap64 (1 + (Go.bits .and .i64 a0_0 3))))) (wrap64 (1 + (Go.bits .and .i64 a0_0 3)))), .int .i64 (wrap64 (1 + (Go.bits .and .i64 a0_0 3))), u233002, u233003, u233004] 48 (0, 0)) (by (with_reducible repeat (first | refine blk_drewN ?_ _ | refine blk_drew ?_ | refine blk_alloc ?_ _)); exact BK232.out) hg (Kd.R_ne HO_11.out BK232.out (by decide))); have n7_ := Aside0.mk (hb); have n8_ := Aside0.mk (ho); clear HO_233002; clear HO_233003; clear HO_233004; clear BK229; clear BK230; clear BK231; clear BK232; clear HB; clear HO_11; have HO_233002 := n0_; have HO_233003 := n1_; have HO_233004 := n2_; have BK229 := n3_; have BK230 := n4_; have BK231 := n5_; have BK232 := n6_; have HB := n7_; have HO251 := n8_; clear n0_ n1_ n2_ n3_ n4_ n5_ n6_ n7_ n8_; clear ho hb hg hat))
                                                          go_roundg k6
                                                          case measure => have := HK1.out; have := HK2.out; have := HK3.out; have := HK4.out; have := HJ38.out; have := HK6.out; omega
                                                          case rel => exact ⟨(y249), (wrap64 (x12_6 + 1)), (by first | rfl | (simp; done) | (simp [*]; done)), H', ⟨by have := HK1.out; have := HK2.out; have := HK3.out; have := HK4.out; have := HJ38.out; have := HK6.out; omega⟩, ⟨by (with_reducible repeat (first | apply Kd.R_alloc | apply Kd.R_drewN | apply Kd.R_drew)); exact HO251.out⟩, ⟨by (with_reducible repeat (first | apply Kd.R_alloc | apply Kd.R_drewN | apply Kd.R_drew)); exact HO_233002.out⟩, ⟨by (with_reducible repeat (first | apply Kd.R_alloc | apply Kd.R_drewN | apply Kd.R_drew)); exact HO_233003.out⟩, ⟨by (with_reducible repeat (first | apply Kd.S_alloc | apply Kd.S_drewN | apply Kd.S_drew)); exact Kd.S_mono HO_233004.out (fun _ hk => hk.2)⟩, ⟨by (with_reducible repeat (first | refine blk_drewN ?_ _ | refine blk_drew ?_ | refine blk_alloc ?_ _)); exact BK229.out⟩, ⟨by (with_reducible repeat (first | refine blk_drewN ?_ _ | refine blk_drew ?_ | refine blk_alloc ?_ _)); exact BK230.out⟩, ⟨by (with_reducible repeat (first | refine blk_drewN ?_ _ | refine blk_drew ?_ | refine blk_alloc ?_ _)); exact BK231.out⟩, ⟨by (with_reducible repeat (first | refine blk_drewN ?_ _ | refine blk_drew ?_ | refine blk_alloc ?_ _)); exact BK232.out⟩, ⟨by repeat (first | (with_reducible first | exact HB.out | apply below_alloc | apply pw_below_drewN | apply below_drew1 | refine below_set ?_ GE229.out | refine below_set ?_ GE230.out | refine below_set ?_ GE231.out | refine below_set ?_ GE232.out) | exact HB.out)⟩⟩
                                                        · rw [if_neg c69] at H
                                                          exact absurd H (by simp)
                                                    · rw [if_neg c67] at H
                                                      exact absurd H (by simp)
                                                  · rw [if_neg c66] at H
                                                    have c66b0 : decide (x12_6 < 4) = false := decide_eq_false c66
                                                    clear c66
                                                    by_cases c75 : x233004_4.length < 4398046511104
                                                    · rw [if_pos c75] at H
                                                      have LMc75 := Aside0.mk c75
                                                      clear c75
                                                      obtain ⟨y252, hy252⟩ : ∃ y_ : List (S64), y_ = (x233004_4 ++ [(⟨x9_3, x11_6⟩ : S64)]) := ⟨_, rfl⟩
                                                      replace H : (primerlaw15_made.l3 k6 (wrap64 (1 + (Go.bits .and .i64 a0_0 3))) (Go.bits .and .i64 a0_1 3) x9_3 (wrap64 (x10_4 + 1)) a0_0 a0_1 a0_2 l0_3 l0_4 (Int.tmod (wrap64 ((Int.tmod a0_2 (wrap64 (1 + (Go.bits .and .i64 a0_0 3)))) + (wrap64 (1 + (Go.bits .and .i64 a0_0 3))))) (wrap64 (1 + (Go.bits .and .i64 a0_0 3)))) (wrap64 (1 + (Go.bits .and .i64 a0_0 3))) x233002_1 x233003_2 y252) = some (r1, r2, r3, r4, r5, r6, r7, r8, r9, r10) := by first | (rw [hy252]; with_reducible exact H) | (have H2_ := (Option.bind_some _ _).symm.trans H; rw [hy252]; with_reducible exact H2_) | (have H2_ := (Option.bind_some _ _).symm.trans H; with_reducible exact H2_) | with_reducible exact H | (rw [hy252]; exact H) | exact H
                                                      have Ny252 := Aside0.mk hy252
                                                      clear hy252
                                                      have H' := Aside0.mk H
                                                      clear H
                                                      have hnb76 := NB229_230.out
                                                      have hnc76 := NB230_229.out
                                                      have hnb77 := NB229_231.out
                                                      have hnc77 := NB231_229.out
                                                      have hnb78 := NB229_232.out
                                                      have hnc78 := NB232_229.out
                                                      have hcz79_0 : wr.cell? ⟨gb229, 0, none⟩ = some (.int .i64 a0_0) := (blk_cell BK229.out 0).trans rfl
                                                      have hcz79_1 : wr.cell? ⟨gb229, 1, none⟩ = some (.int .i64 a0_1) := (blk_cell BK229.out 1).trans rfl
                                                      have hcz79_2 : wr.cell? ⟨gb229, 2, none⟩ = some (.int .i64 a0_2) := (blk_cell BK229.out 2).trans rfl
                                                      have hcz79_3 : wr.cell? ⟨gb229, 3, none⟩ = some (.slice (some ad245) l0_3.length c0_3) := (blk_cell BK229.out 3).trans rfl
                                                      have hcz79_4 : wr.cell? ⟨gb229, 4, none⟩ = some (.slice A0_4 l0_4.length c0_4) := (blk_cell BK229.out 4).trans rfl
                                                      have hfz79_0 := blk_frozen BK229.out 0
                                                      have hfz79_1 := blk_frozen BK229.out 1
                                                      have hfz79_2 := blk_frozen BK229.out 2
                                                      have hfz79_3 := blk_frozen BK229.out 3
                                                      have hfz79_4 := blk_frozen BK229.out 4
                                                      have p246 : 0 ≤ (x10_4 : Int) := of_decide_eq_true (by first | (with_reducible assumption) | assumption)
                                                      have q246 : x10_4 < (l0_4.length : Int) := of_decide_eq_true (by first | (with_reducible assumption) | assumption)
                                                      obtain ⟨ad246, A246_0, c246_0, e246, hx246_0, hl246_0, hi246_0⟩ := at_L2 HR0_4.out x10_4 p246 q246
                                                      cases e246
                                                      replace hx246_0 := (HB.out.cell (World.block_lt_of_cell? w _ hx246_0)).trans hx246_0
                                                      have HR246_0 := Aside0.mk hi246_0
                                                      have HC246_0 := Aside0.mk hl246_0
                                                      clear hi246_0 hl246_0
                                                      replace p246 := eq_true p246
                                                      replace q246 := eq_true q246
                                                      have hnb80 := NB232_230.out
                                                      have hnc80 := NB230_232.out
                                                      have hnb81 := NB232_231.out
                                                      have hnc81 := NB231_232.out
                                                      have hcz82_0 : wr.cell? ⟨gb232, 0, none⟩ = some (.int .i64 (Int.tmod (wrap64 ((Int.tmod a0_2 (wrap64 (1 + (Go.bits .and .i64 a0_0 3)))) + (wrap64 (1 + (Go.bits .and .i64 a0_0 3))))) (wrap64 (1 + (Go.bits .and .i64 a0_0 3))))) := (blk_cell BK232.out 0).trans rfl
                                                      have hcz82_1 : wr.cell? ⟨gb232, 1, none⟩ = some (.int .i64 (wrap64 (1 + (Go.bits .and .i64 a0_0 3)))) := (blk_cell BK232.out 1).trans rfl
                                                      have hcz82_2 : wr.cell? ⟨gb232, 2, none⟩ = some (u233002) := (blk_cell BK232.out 2).trans rfl
                                                      have hcz82_3 : wr.cell? ⟨gb232, 3, none⟩ = some (u233003) := (blk_cell BK232.out 3).trans rfl
                                                      have hcz82_4 : wr.cell? ⟨gb232, 4, none⟩ = some (u233004) := (blk_cell BK232.out 4).trans rfl
                                                      have hfz82_0 := blk_frozen BK232.out 0
                                                      have hfz82_1 := blk_frozen BK232.out 1
                                                      have hfz82_2 := blk_frozen BK232.out 2
                                                      have hfz82_3 := blk_frozen BK232.out 3
                                                      have hfz82_4 := blk_frozen BK232.out 4
                                                      obtain ⟨Ao83, co83, eo83⟩ := Kd.R_slice HO_11.out
                                                      subst eo83
                                                      go_wp2_with (first | ((with_reducible refine gate_builtin (b := .append) (xs := #[.tmp 138, .tmp 142]) rfl ?_); (try (refine gate_guard (by rfl) ?_; dsimp only)); at_builtin; refine Kd.S_append k64 (w0 := w) w.heap.size rfl (.tmp 138) (.tmp 142) 46 64 (.agg #[(.int .i64 0), (.slice none 0 0)]) 32 rfl Try.underlying46 info64 rfl (by decide) (by omega) u233004 x233004_4 (⟨x9_3, x11_6⟩ : S64) [.int .i64 x9_3, .slice Ao83 x11_6.length co83] (fun _ => True) (fun k_ => some k_ = (.slice Ao83 x11_6.length co83 : Value).ownBlock) rfl rfl ?aP (fun k_ hk_ => ((Kd.R_mono (ok' := fun k_ => ((fun _ => True)) k_ ∧ some k_ ≠ (u233004 : Value).ownBlock) (Kd.R_apart' (HO_11.out) (Kd.S_typed HO_233004.out) (by decide)) (fun k_ hk => ⟨trivial, hk.2⟩))).1 k_ hk_.symm) ?aF ?aO ?aB ?aS ?aL ?_; (case aP => exact k64_mkM _ _ _ (⟨x9_3, x11_6⟩ : S64) (Kd.R_mono (Kd.R_tight rfl (Kd.R_mono (ok' := fun k_ => ((fun _ => True)) k_ ∧ some k_ ≠ (u233004 : Value).ownBlock) (Kd.R_apart' (HO_11.out) (Kd.S_typed HO_233004.out) (by decide)) (fun k_ hk => ⟨trivial, hk.2⟩))) (fun _ h_ => h_))); (case aB => exact (by repeat (first | (with_reducible first | exact HB.out | apply below_alloc | apply pw_below_drewN | apply below_drew1 | refine below_set ?_ GE229.out | refine below_set ?_ GE230.out | refine below_set ?_ GE231.out | refine below_set ?_ GE232.out) | exact HB.out))); (case aF => exact (fun _ _ => trivial)); (case aO => exact (by (with_reducible repeat (first | apply Kd.S_alloc | apply Kd.S_drewN | apply Kd.S_drew)); exact Kd.S_mono HO_233004.out (fun k_ hk => ⟨trivial, fun e_ => hk e_⟩))); (case aS => exact (below_size (by repeat (first | (with_reducible first | exact HB.out | apply below_alloc | apply pw_below_drewN | apply below_drew1 | refine below_set ?_ GE229.out | refine below_set ?_ GE230.out | refine below_set ?_ GE231.out | refine below_set ?_ GE232.out) | exact HB.out)))); (case aL => have := LMc75.out; omega); intro v253 w84 ho hb hg hat; rw [← Ny252.out] at ho; have n0_ := Aside0.mk (Kd.R_over' (by (with_reducible repeat (first | apply Kd.R_alloc | apply Kd.R_drewN | apply Kd.R_drew)); exact HO_233002.out) (Kd.S_typed (by (with_reducible repeat (first | apply Kd.S_alloc | apply Kd.S_drewN | apply Kd.S_drew)); exact HO_233004.out)) (by decide) hg); have n1_ := Aside0.mk (Kd.R_over' (by (with_reducible repeat (first | apply Kd.R_alloc | apply Kd.R_drewN | apply Kd.R_drew)); exact HO_233003.out) (Kd.S_typed (by (with_reducible repeat (first | apply Kd.S_alloc | apply Kd.S_drewN | apply Kd.S_drew)); exact HO_233004.out)) (by decide) hg); have n2_ := Aside0.mk (blk_grown (g := gb229) (o := .cells #[.int .i64 a0_0, .int .i64 a0_1, .int .i64 a0_2, .slice (some ad245) l0_3.length c0_3, .slice (some ad246) l0_4.length c0_4] 45 (0, 0)) (by (with_reducible repeat (first | refine blk_drewN ?_ _ | refine blk_drew ?_ | refine blk_alloc ?_ _)); exact BK229.out) hg (Kd.S_ne HO_233004.out BK229.out (by decide))); have n3_ := Aside0.mk (blk_grown (g := gb230) (o := .cells #[.int .i64 0, .int .i64 0, .slice none 0 0, .slice none 0 0, .slice none 0 0] 26 (0, 0)) (by (with_reducible repeat (first | refine blk_drewN ?_ _ | refine blk_drew ?_ | refine blk_alloc ?_ _)); exact BK230.out) hg (Kd.S_ne HO_233004.out BK230.out (by decide))); have n4_ := Aside0.mk (blk_grown (g := gb231) (o := .cells #[.int .i64 0, .int .i64 0, .slice none 0 0, .slice none 0 0, .slice none 0 0] 48 (0, 0)) (by (with_reducible repeat (first | refine blk_drewN ?_ _ | refine blk_drew ?_ | refine blk_alloc ?_ _)); exact BK231.out) hg (Kd.S_ne HO_233004.out BK231.out (by decide))); have n5_ := Aside0.mk (blk_grown (g := gb232) (o := .cells #[.int .i64 (Int.tmod (wrap64 ((Int.tmod a0_2 (wrap64 (1 + (Go.bits .and .i64 a0_0 3)))) + (wrap64 (1 + (Go.bits .and .i64 a0_0 3))))) (wrap64 (1 + (Go.bits .and .i64 a0_0 3)))), .int .i64 (wrap64 (1 + (Go.bits .and .i64 a0_0 3))), u233002, u233003, u233004] 48 (0, 0)) (by (with_reducible repeat (first | refine blk_drewN ?_ _ | refine blk_drew ?_ | refine blk_alloc ?_ _)); exact BK232.out) hg (Kd.S_ne HO_233004.out BK232.out (by decide))); have n6_ := Aside0.mk (hb); have n7_ := Aside0.mk (ho); clear HO_233002; clear HO_233003; clear BK229; clear BK230; clear BK231; clear BK232; clear HB; clear HO_233004; clear HO_11; have HO_233002 := n0_; have HO_233003 := n1_; have BK229 := n2_; have BK230 := n3_; have BK231 := n4_; have BK232 := n5_; have HB := n6_; have HO254 := n7_; clear n0_ n1_ n2_ n3_ n4_ n5_ n6_ n7_; clear ho hb hg hat; obtain ⟨Ao85, co85, eo85⟩ := Kd.S_slice HO254.out; subst eo85; have hcz86_0 : w84.cell? ⟨gb232, 0, none⟩ = some (.int .i64 (Int.tmod (wrap64 ((Int.tmod a0_2 (wrap64 (1 + (Go.bits .and .i64 a0_0 3)))) + (wrap64 (1 + (Go.bits .and .i64 a0_0 3))))) (wrap64 (1 + (Go.bits .and .i64 a0_0 3))))) := (blk_cell BK232.out 0).trans rfl; have hcz86_1 : w84.cell? ⟨gb232, 1, none⟩ = some (.int .i64 (wrap64 (1 + (Go.bits .and .i64 a0_0 3)))) := (blk_cell BK232.out 1).trans rfl; have hcz86_2 : w84.cell? ⟨gb232, 2, none⟩ = some (u233002) := (blk_cell BK232.out 2).trans rfl; have hcz86_3 : w84.cell? ⟨gb232, 3, none⟩ = some (u233003) := (blk_cell BK232.out 3).trans rfl; have hcz86_4 : w84.cell? ⟨gb232, 4, none⟩ = some (u233004) := (blk_cell BK232.out 4).trans rfl; have hfz86_0 := blk_frozen BK232.out 0; have hfz86_1 := blk_frozen BK232.out 1; have hfz86_2 := blk_frozen BK232.out 2; have hfz86_3 := blk_frozen BK232.out 3; have hfz86_4 := blk_frozen BK232.out 4))
                                                      go_roundg k6
                                                      case measure => have := HK1.out; have := HK2.out; have := HK3.out; have := HK4.out; have := HJ38.out; have := HK6.out; omega
                                                      case rel => exact ⟨(wrap64 (x10_4 + 1)), (y252), (.slice Ao85 y252.length co85), (by first | rfl | (simp; done) | (simp [*]; done)), H', ⟨by have := HK1.out; have := HK2.out; have := HK3.out; have := HK4.out; have := HJ38.out; have := HK6.out; omega⟩, ⟨by (with_reducible repeat (first | apply Kd.R_alloc | apply Kd.R_drewN | apply Kd.R_drew)); exact Kd.R_mono (Kd.R_far (p := ⟨gb232, 4, none⟩) (Kd.R_types HO_233002.out BK232.out (by decide)) (fun _ hk => hk.2) (.slice Ao85 y252.length co85)) (fun _ hk => hk.1)⟩, ⟨by (with_reducible repeat (first | apply Kd.R_alloc | apply Kd.R_drewN | apply Kd.R_drew)); exact Kd.R_mono (Kd.R_far (p := ⟨gb232, 4, none⟩) (Kd.R_types HO_233003.out BK232.out (by decide)) (fun _ hk => hk.2) (.slice Ao85 y252.length co85)) (fun _ hk => hk.1)⟩, ⟨by (with_reducible repeat (first | apply Kd.S_alloc | apply Kd.S_drewN | apply Kd.S_drew)); exact Kd.S_mono (Kd.S_far (p := ⟨gb232, 4, none⟩) (Kd.S_types HO254.out BK232.out (by decide)) (fun _ hk => hk.2) (.slice Ao85 y252.length co85)) (fun _ hk => trivial)⟩, ⟨by (with_reducible repeat (first | refine blk_drewN ?_ _ | refine blk_drew ?_ | refine blk_alloc ?_ _)); refine blk_far ?_ NB229_232.out _; (with_reducible repeat (first | refine blk_drewN ?_ _ | refine blk_drew ?_ | refine blk_alloc ?_ _)); exact BK229.out⟩, ⟨by (with_reducible repeat (first | refine blk_drewN ?_ _ | refine blk_drew ?_ | refine blk_alloc ?_ _)); refine blk_far ?_ NB230_232.out _; (with_reducible repeat (first | refine blk_drewN ?_ _ | refine blk_drew ?_ | refine blk_alloc ?_ _)); exact BK230.out⟩, ⟨by (with_reducible repeat (first | refine blk_drewN ?_ _ | refine blk_drew ?_ | refine blk_alloc ?_ _)); refine blk_far ?_ NB231_232.out _; (with_reducible repeat (first | refine blk_drewN ?_ _ | refine blk_drew ?_ | refine blk_alloc ?_ _)); exact BK231.out⟩, ⟨by (with_reducible repeat (first | refine blk_drewN ?_ _ | refine blk_drew ?_ | refine blk_alloc ?_ _)); refine blk_put (cs := #[.int .i64 (Int.tmod (wrap64 ((Int.tmod a0_2 (wrap64 (1 + (Go.bits .and .i64 a0_0 3)))) + (wrap64 (1 + (Go.bits .and .i64 a0_0 3))))) (wrap64 (1 + (Go.bits .and .i64 a0_0 3)))), .int .i64 (wrap64 (1 + (Go.bits .and .i64 a0_0 3))), u233002, u233003, u233004]) ?_ 4 _ rfl; (with_reducible repeat (first | refine blk_drewN ?_ _ | refine blk_drew ?_ | refine blk_alloc ?_ _)); exact BK232.out⟩, ⟨by repeat (first | (with_reducible first | exact HB.out | apply below_alloc | apply pw_below_drewN | apply below_drew1 | refine below_set ?_ GE229.out | refine below_set ?_ GE230.out | refine below_set ?_ GE231.out | refine below_set ?_ GE232.out) | exact HB.out)⟩⟩
                                                    · rw [if_neg c75] at H
                                                      exact absurd H (by simp)
                                                · rw [if_neg c65] at H
                                                  have c65b0 : decide (x12_6 < ((rd_L2 l0_4 x10_4).length : Int)) = false := decide_eq_false c65
                                                  clear c65
                                                  by_cases c87 : x233004_4.length < 4398046511104
                                                  · rw [if_pos c87] at H
                                                    have LMc87 := Aside0.mk c87
                                                    clear c87
                                                    obtain ⟨y255, hy255⟩ : ∃ y_ : List (S64), y_ = (x233004_4 ++ [(⟨x9_3, x11_6⟩ : S64)]) := ⟨_, rfl⟩
                                                    replace H : (primerlaw15_made.l3 k6 (wrap64 (1 + (Go.bits .and .i64 a0_0 3))) (Go.bits .and .i64 a0_1 3) x9_3 (wrap64 (x10_4 + 1)) a0_0 a0_1 a0_2 l0_3 l0_4 (Int.tmod (wrap64 ((Int.tmod a0_2 (wrap64 (1 + (Go.bits .and .i64 a0_0 3)))) + (wrap64 (1 + (Go.bits .and .i64 a0_0 3))))) (wrap64 (1 + (Go.bits .and .i64 a0_0 3)))) (wrap64 (1 + (Go.bits .and .i64 a0_0 3))) x233002_1 x233003_2 y255) = some (r1, r2, r3, r4, r5, r6, r7, r8, r9, r10) := by first | (rw [hy255]; with_reducible exact H) | (have H2_ := (Option.bind_some _ _).symm.trans H; rw [hy255]; with_reducible exact H2_) | (have H2_ := (Option.bind_some _ _).symm.trans H; with_reducible exact H2_) | with_reducible exact H | (rw [hy255]; exact H) | exact H
                                                    have Ny255 := Aside0.mk hy255
                                                    clear hy255
                                                    have H' := Aside0.mk H
                                                    clear H
                                                    have hnb88 := NB229_230.out
                                                    have hnc88 := NB230_229.out
                                                    have hnb89 := NB229_231.out
                                                    have hnc89 := NB231_229.out
                                                    have hnb90 := NB229_232.out
                                                    have hnc90 := NB232_229.out
                                                    have hcz91_0 : wr.cell? ⟨gb229, 0, none⟩ = some (.int .i64 a0_0) := (blk_cell BK229.out 0).trans rfl
                                                    have hcz91_1 : wr.cell? ⟨gb229, 1, none⟩ = some (.int .i64 a0_1) := (blk_cell BK229.out 1).trans rfl
                                                    have hcz91_2 : wr.cell? ⟨gb229, 2, none⟩ = some (.int .i64 a0_2) := (blk_cell BK229.out 2).trans rfl
                                                    have hcz91_3 : wr.cell? ⟨gb229, 3, none⟩ = some (.slice (some ad245) l0_3.length c0_3) := (blk_cell BK229.out 3).trans rfl
                                                    have hcz91_4 : wr.cell? ⟨gb229, 4, none⟩ = some (.slice A0_4 l0_4.length c0_4) := (blk_cell BK229.out 4).trans rfl
                                                    have hfz91_0 := blk_frozen BK229.out 0
                                                    have hfz91_1 := blk_frozen BK229.out 1
                                                    have hfz91_2 := blk_frozen BK229.out 2
                                                    have hfz91_3 := blk_frozen BK229.out 3
                                                    have hfz91_4 := blk_frozen BK229.out 4
                                                    have p246 : 0 ≤ (x10_4 : Int) := of_decide_eq_true (by first | (with_reducible assumption) | assumption)
                                                    have q246 : x10_4 < (l0_4.length : Int) := of_decide_eq_true (by first | (with_reducible assumption) | assumption)
                                                    obtain ⟨ad246, A246_0, c246_0, e246, hx246_0, hl246_0, hi246_0⟩ := at_L2 HR0_4.out x10_4 p246 q246
                                                    cases e246
                                                    replace hx246_0 := (HB.out.cell (World.block_lt_of_cell? w _ hx246_0)).trans hx246_0
                                                    have HR246_0 := Aside0.mk hi246_0
                                                    have HC246_0 := Aside0.mk hl246_0
                                                    clear hi246_0 hl246_0
                                                    replace p246 := eq_true p246
                                                    replace q246 := eq_true q246
                                                    have hnb92 := NB232_230.out
                                                    have hnc92 := NB230_232.out
                                                    have hnb93 := NB232_231.out
                                                    have hnc93 := NB231_232.out
                                                    have hcz94_0 : wr.cell? ⟨gb232, 0, none⟩ = some (.int .i64 (Int.tmod (wrap64 ((Int.tmod a0_2 (wrap64 (1 + (Go.bits .and .i64 a0_0 3)))) + (wrap64 (1 + (Go.bits .and .i64 a0_0 3))))) (wrap64 (1 + (Go.bits .and .i64 a0_0 3))))) := (blk_cell BK232.out 0).trans rfl
                                                    have hcz94_1 : wr.cell? ⟨gb232, 1, none⟩ = some (.int .i64 (wrap64 (1 + (Go.bits .and .i64 a0_0 3)))) := (blk_cell BK232.out 1).trans rfl
                                                    have hcz94_2 : wr.cell? ⟨gb232, 2, none⟩ = some (u233002) := (blk_cell BK232.out 2).trans rfl
                                                    have hcz94_3 : wr.cell? ⟨gb232, 3, none⟩ = some (u233003) := (blk_cell BK232.out 3).trans rfl
                                                    have hcz94_4 : wr.cell? ⟨gb232, 4, none⟩ = some (u233004) := (blk_cell BK232.out 4).trans rfl
                                                    have hfz94_0 := blk_frozen BK232.out 0
                                                    have hfz94_1 := blk_frozen BK232.out 1
                                                    have hfz94_2 := blk_frozen BK232.out 2
                                                    have hfz94_3 := blk_frozen BK232.out 3
                                                    have hfz94_4 := blk_frozen BK232.out 4
                                                    obtain ⟨Ao95, co95, eo95⟩ := Kd.R_slice HO_11.out
                                                    subst eo95
                                                    go_wp2_with (first | ((with_reducible refine gate_builtin (b := .append) (xs := #[.tmp 138, .tmp 142]) rfl ?_); (try (refine gate_guard (by rfl) ?_; dsimp only)); at_builtin; refine Kd.S_append k64 (w0 := w) w.heap.size rfl (.tmp 138) (.tmp 142) 46 64 (.agg #[(.int .i64 0), (.slice none 0 0)]) 32 rfl Try.underlying46 info64 rfl (by decide) (by omega) u233004 x233004_4 (⟨x9_3, x11_6⟩ : S64) [.int .i64 x9_3, .slice Ao95 x11_6.length co95] (fun _ => True) (fun k_ => some k_ = (.slice Ao95 x11_6.length co95 : Value).ownBlock) rfl rfl ?aP (fun k_ hk_ => ((Kd.R_mono (ok' := fun k_ => ((fun _ => True)) k_ ∧ some k_ ≠ (u233004 : Value).ownBlock) (Kd.R_apart' (HO_11.out) (Kd.S_typed HO_233004.out) (by decide)) (fun k_ hk => ⟨trivial, hk.2⟩))).1 k_ hk_.symm) ?aF ?aO ?aB ?aS ?aL ?_; (case aP => exact k64_mkM _ _ _ (⟨x9_3, x11_6⟩ : S64) (Kd.R_mono (Kd.R_tight rfl (Kd.R_mono (ok' := fun k_ => ((fun _ => True)) k_ ∧ some k_ ≠ (u233004 : Value).ownBlock) (Kd.R_apart' (HO_11.out) (Kd.S_typed HO_233004.out) (by decide)) (fun k_ hk => ⟨trivial, hk.2⟩))) (fun _ h_ => h_))); (case aB => exact (by repeat (first | (with_reducible first | exact HB.out | apply below_alloc | apply pw_below_drewN | apply below_drew1 | refine below_set ?_ GE229.out | refine below_set ?_ GE230.out | refine below_set ?_ GE231.out | refine below_set ?_ GE232.out) | exact HB.out))); (case aF => exact (fun _ _ => trivial)); (case aO => exact (by (with_reducible repeat (first | apply Kd.S_alloc | apply Kd.S_drewN | apply Kd.S_drew)); exact Kd.S_mono HO_233004.out (fun k_ hk => ⟨trivial, fun e_ => hk e_⟩))); (case aS => exact (below_size (by repeat (first | (with_reducible first | exact HB.out | apply below_alloc | apply pw_below_drewN | apply below_drew1 | refine below_set ?_ GE229.out | refine below_set ?_ GE230.out | refine below_set ?_ GE231.out | refine below_set ?_ GE232.out) | exact HB.out)))); (case aL => have := LMc87.out; omega); intro v256 w96 ho hb hg hat; rw [← Ny255.out] at ho; have n0_ := Aside0.mk (Kd.R_over' (by (with_reducible repeat (first | apply Kd.R_alloc | apply Kd.R_drewN | apply Kd.R_drew)); exact HO_233002.out) (Kd.S_typed (by (with_reducible repeat (first | apply Kd.S_alloc | apply Kd.S_drewN | apply Kd.S_drew)); exact HO_233004.out)) (by decide) hg); have n1_ := Aside0.mk (Kd.R_over' (by (with_reducible repeat (first | apply Kd.R_alloc | apply Kd.R_drewN | apply Kd.R_drew)); exact HO_233003.out) (Kd.S_typed (by (with_reducible repeat (first | apply Kd.S_alloc | apply Kd.S_drewN | apply Kd.S_drew)); exact HO_233004.out)) (by decide) hg); have n2_ := Aside0.mk (blk_grown (g := gb229) (o := .cells #[.int .i64 a0_0, .int .i64 a0_1, .int .i64 a0_2, .slice (some ad245) l0_3.length c0_3, .slice (some ad246) l0_4.length c0_4] 45 (0, 0)) (by (with_reducible repeat (first | refine blk_drewN ?_ _ | refine blk_drew ?_ | refine blk_alloc ?_ _)); exact BK229.out) hg (Kd.S_ne HO_233004.out BK229.out (by decide))); have n3_ := Aside0.mk (blk_grown (g := gb230) (o := .cells #[.int .i64 0, .int .i64 0, .slice none 0 0, .slice none 0 0, .slice none 0 0] 26 (0, 0)) (by (with_reducible repeat (first | refine blk_drewN ?_ _ | refine blk_drew ?_ | refine blk_alloc ?_ _)); exact BK230.out) hg (Kd.S_ne HO_233004.out BK230.out (by decide))); have n4_ := Aside0.mk (blk_grown (g := gb231) (o := .cells #[.int .i64 0, .int .i64 0, .slice none 0 0, .slice none 0 0, .slice none 0 0] 48 (0, 0)) (by (with_reducible repeat (first | refine blk_drewN ?_ _ | refine blk_drew ?_ | refine blk_alloc ?_ _)); exact BK231.out) hg (Kd.S_ne HO_233004.out BK231.out (by decide))); have n5_ := Aside0.mk (blk_grown (g := gb232) (o := .cells #[.int .i64 (Int.tmod (wrap64 ((Int.tmod a0_2 (wrap64 (1 + (Go.bits .and .i64 a0_0 3)))) + (wrap64 (1 + (Go.bits .and .i64 a0_0 3))))) (wrap64 (1 + (Go.bits .and .i64 a0_0 3)))), .int .i64 (wrap64 (1 + (Go.bits .and .i64 a0_0 3))), u233002, u233003, u233004] 48 (0, 0)) (by (with_reducible repeat (first | refine blk_drewN ?_ _ | refine blk_drew ?_ | refine blk_alloc ?_ _)); exact BK232.out) hg (Kd.S_ne HO_233004.out BK232.out (by decide))); have n6_ := Aside0.mk (hb); have n7_ := Aside0.mk (ho); clear HO_233002; clear HO_233003; clear BK229; clear BK230; clear BK231; clear BK232; clear HB; clear HO_233004; clear HO_11; have HO_233002 := n0_; have HO_233003 := n1_; have BK229 := n2_; have BK230 := n3_; have BK231 := n4_; have BK232 := n5_; have HB := n6_; have HO257 := n7_; clear n0_ n1_ n2_ n3_ n4_ n5_ n6_ n7_; clear ho hb hg hat; obtain ⟨Ao97, co97, eo97⟩ := Kd.S_slice HO257.out; subst eo97; have hcz98_0 : w96.cell? ⟨gb232, 0, none⟩ = some (.int .i64 (Int.tmod (wrap64 ((Int.tmod a0_2 (wrap64 (1 + (Go.bits .and .i64 a0_0 3)))) + (wrap64 (1 + (Go.bits .and .i64 a0_0 3))))) (wrap64 (1 + (Go.bits .and .i64 a0_0 3))))) := (blk_cell BK232.out 0).trans rfl; have hcz98_1 : w96.cell? ⟨gb232, 1, none⟩ = some (.int .i64 (wrap64 (1 + (Go.bits .and .i64 a0_0 3)))) := (blk_cell BK232.out 1).trans rfl; have hcz98_2 : w96.cell? ⟨gb232, 2, none⟩ = some (u233002) := (blk_cell BK232.out 2).trans rfl; have hcz98_3 : w96.cell? ⟨gb232, 3, none⟩ = some (u233003) := (blk_cell BK232.out 3).trans rfl; have hcz98_4 : w96.cell? ⟨gb232, 4, none⟩ = some (u233004) := (blk_cell BK232.out 4).trans rfl; have hfz98_0 := blk_frozen BK232.out 0; have hfz98_1 := blk_frozen BK232.out 1; have hfz98_2 := blk_frozen BK232.out 2; have hfz98_3 := blk_frozen BK232.out 3; have hfz98_4 := blk_frozen BK232.out 4))
                                                    go_roundg k6
                                                    case measure => have := HK1.out; have := HK2.out; have := HK3.out; have := HK4.out; have := HJ38.out; have := HK6.out; omega
                                                    case rel => exact ⟨(wrap64 (x10_4 + 1)), (y255), (.slice Ao97 y255.length co97), (by first | rfl | (simp; done) | (simp [*]; done)), H', ⟨by have := HK1.out; have := HK2.out; have := HK3.out; have := HK4.out; have := HJ38.out; have := HK6.out; omega⟩, ⟨by (with_reducible repeat (first | apply Kd.R_alloc | apply Kd.R_drewN | apply Kd.R_drew)); exact Kd.R_mono (Kd.R_far (p := ⟨gb232, 4, none⟩) (Kd.R_types HO_233002.out BK232.out (by decide)) (fun _ hk => hk.2) (.slice Ao97 y255.length co97)) (fun _ hk => hk.1)⟩, ⟨by (with_reducible repeat (first | apply Kd.R_alloc | apply Kd.R_drewN | apply Kd.R_drew)); exact Kd.R_mono (Kd.R_far (p := ⟨gb232, 4, none⟩) (Kd.R_types HO_233003.out BK232.out (by decide)) (fun _ hk => hk.2) (.slice Ao97 y255.length co97)) (fun _ hk => hk.1)⟩, ⟨by (with_reducible repeat (first | apply Kd.S_alloc | apply Kd.S_drewN | apply Kd.S_drew)); exact Kd.S_mono (Kd.S_far (p := ⟨gb232, 4, none⟩) (Kd.S_types HO257.out BK232.out (by decide)) (fun _ hk => hk.2) (.slice Ao97 y255.length co97)) (fun _ hk => trivial)⟩, ⟨by (with_reducible repeat (first | refine blk_drewN ?_ _ | refine blk_drew ?_ | refine blk_alloc ?_ _)); refine blk_far ?_ NB229_232.out _; (with_reducible repeat (first | refine blk_drewN ?_ _ | refine blk_drew ?_ | refine blk_alloc ?_ _)); exact BK229.out⟩, ⟨by (with_reducible repeat (first | refine blk_drewN ?_ _ | refine blk_drew ?_ | refine blk_alloc ?_ _)); refine blk_far ?_ NB230_232.out _; (with_reducible repeat (first | refine blk_drewN ?_ _ | refine blk_drew ?_ | refine blk_alloc ?_ _)); exact BK230.out⟩, ⟨by (with_reducible repeat (first | refine blk_drewN ?_ _ | refine blk_drew ?_ | refine blk_alloc ?_ _)); refine blk_far ?_ NB231_232.out _; (with_reducible repeat (first | refine blk_drewN ?_ _ | refine blk_drew ?_ | refine blk_alloc ?_ _)); exact BK231.out⟩, ⟨by (with_reducible repeat (first | refine blk_drewN ?_ _ | refine blk_drew ?_ | refine blk_alloc ?_ _)); refine blk_put (cs := #[.int .i64 (Int.tmod (wrap64 ((Int.tmod a0_2 (wrap64 (1 + (Go.bits .and .i64 a0_0 3)))) + (wrap64 (1 + (Go.bits .and .i64 a0_0 3))))) (wrap64 (1 + (Go.bits .and .i64 a0_0 3)))), .int .i64 (wrap64 (1 + (Go.bits .and .i64 a0_0 3))), u233002, u233003, u233004]) ?_ 4 _ rfl; (with_reducible repeat (first | refine blk_drewN ?_ _ | refine blk_drew ?_ | refine blk_alloc ?_ _)); exact BK232.out⟩, ⟨by repeat (first | (with_reducible first | exact HB.out | apply below_alloc | apply pw_below_drewN | apply below_drew1 | refine below_set ?_ GE229.out | refine below_set ?_ GE230.out | refine below_set ?_ GE231.out | refine below_set ?_ GE232.out) | exact HB.out)⟩⟩
                                                  · rw [if_neg c87] at H
                                                    exact absurd H (by simp)
                                              · rw [if_neg c64] at H
                                                exact absurd H (by simp)
                                            · rw [if_neg c63] at H
                                              exact absurd H (by simp)
                                      · rw [if_neg c58] at H
                                        have c58b0 : ((Int.tmod (wrap64 ((Int.tmod (rd l0_3 x10_4) (wrap64 (1 + (Go.bits .and .i64 a0_0 3)))) + (wrap64 (1 + (Go.bits .and .i64 a0_0 3))))) (wrap64 (1 + (Go.bits .and .i64 a0_0 3)))) == x9_3) = false := beq_eq_false_iff_ne.mpr c58
                                        have c58b1 : ((Int.tmod (wrap64 ((Int.tmod (rd l0_3 x10_4) (wrap64 (1 + (Go.bits .and .i64 a0_0 3)))) + (wrap64 (1 + (Go.bits .and .i64 a0_0 3))))) (wrap64 (1 + (Go.bits .and .i64 a0_0 3)))) != x9_3) = true := bne_iff_ne.mpr c58
                                        have H' := Aside0.mk H
                                        clear H
                                        have hnb99 := NB229_230.out
                                        have hnc99 := NB230_229.out
                                        have hnb100 := NB229_231.out
                                        have hnc100 := NB231_229.out
                                        have hnb101 := NB229_232.out
                                        have hnc101 := NB232_229.out
                                        have hcz102_0 : wc.cell? ⟨gb229, 0, none⟩ = some (.int .i64 a0_0) := (blk_cell BK229.out 0).trans rfl
                                        have hcz102_1 : wc.cell? ⟨gb229, 1, none⟩ = some (.int .i64 a0_1) := (blk_cell BK229.out 1).trans rfl
                                        have hcz102_2 : wc.cell? ⟨gb229, 2, none⟩ = some (.int .i64 a0_2) := (blk_cell BK229.out 2).trans rfl
                                        have hcz102_3 : wc.cell? ⟨gb229, 3, none⟩ = some (.slice A0_3 l0_3.length c0_3) := (blk_cell BK229.out 3).trans rfl
                                        have hcz102_4 : wc.cell? ⟨gb229, 4, none⟩ = some (.slice A0_4 l0_4.length c0_4) := (blk_cell BK229.out 4).trans rfl
                                        have hfz102_0 := blk_frozen BK229.out 0
                                        have hfz102_1 := blk_frozen BK229.out 1
                                        have hfz102_2 := blk_frozen BK229.out 2
                                        have hfz102_3 := blk_frozen BK229.out 3
                                        have hfz102_4 := blk_frozen BK229.out 4
                                        have p245 : 0 ≤ (x10_4 : Int) := of_decide_eq_true (by first | (with_reducible assumption) | assumption)
                                        have q245 : x10_4 < (l0_3.length : Int) := of_decide_eq_true (by first | (with_reducible assumption) | assumption)
                                        obtain ⟨ad245, e245, hx245_0⟩ := Kd.at_int HR0_3.out x10_4 p245 q245
                                        cases e245
                                        replace hx245_0 := (HB.out.cell (World.block_lt_of_cell? w _ hx245_0)).trans hx245_0
                                        replace p245 := eq_true p245
                                        replace q245 := eq_true q245
                                        go_wp2
                                        repeat (go_quiet (fail); try go_wp2)
                                        go_roundg kj38
                                        case measure => have := HK1.out; have := HK2.out; have := HK3.out; have := HK4.out; have := HJ38.out; omega
                                        case rel => exact ⟨(wrap64 (x10_4 + 1)), (x233004_4), (u233004), (by first | rfl | (simp; done) | (simp [*]; done)), H', ⟨by have := HK1.out; have := HK2.out; have := HK3.out; have := HK4.out; have := HJ38.out; omega⟩, ⟨by (with_reducible repeat (first | apply Kd.R_alloc | apply Kd.R_drewN | apply Kd.R_drew)); exact HO_233002.out⟩, ⟨by (with_reducible repeat (first | apply Kd.R_alloc | apply Kd.R_drewN | apply Kd.R_drew)); exact HO_233003.out⟩, ⟨by (with_reducible repeat (first | apply Kd.S_alloc | apply Kd.S_drewN | apply Kd.S_drew)); exact HO_233004.out⟩, ⟨by (with_reducible repeat (first | refine blk_drewN ?_ _ | refine blk_drew ?_ | refine blk_alloc ?_ _)); exact BK229.out⟩, ⟨by (with_reducible repeat (first | refine blk_drewN ?_ _ | refine blk_drew ?_ | refine blk_alloc ?_ _)); exact BK230.out⟩, ⟨by (with_reducible repeat (first | refine blk_drewN ?_ _ | refine blk_drew ?_ | refine blk_alloc ?_ _)); exact BK231.out⟩, ⟨by (with_reducible repeat (first | refine blk_drewN ?_ _ | refine blk_drew ?_ | refine blk_alloc ?_ _)); exact BK232.out⟩, ⟨by repeat (first | (with_reducible first | exact HB.out | apply below_alloc | apply pw_below_drewN | apply below_drew1 | refine below_set ?_ GE229.out | refine below_set ?_ GE230.out | refine below_set ?_ GE231.out | refine below_set ?_ GE232.out) | exact HB.out)⟩⟩
                                  · rw [if_neg c56] at H
                                    exact absurd H (by simp)
                                · rw [if_neg c55] at H
                                  exact absurd H (by simp)
                              · replace c54 := Bool.eq_false_iff.mpr c54
                                subst c54
                                have H1 : (primerlaw15_made.l2 kj38 (wrap64 (1 + (Go.bits .and .i64 a0_0 3))) (Go.bits .and .i64 a0_1 3) (wrap64 (x9_3 + 1)) a0_0 a0_1 a0_2 l0_3 l0_4 (Int.tmod (wrap64 ((Int.tmod a0_2 (wrap64 (1 + (Go.bits .and .i64 a0_0 3)))) + (wrap64 (1 + (Go.bits .and .i64 a0_0 3))))) (wrap64 (1 + (Go.bits .and .i64 a0_0 3)))) (wrap64 (1 + (Go.bits .and .i64 a0_0 3))) x233002_1 x233003_2 x233004_4) = some (r1, r2, r3, r4, r5, r6, r7, r8, r9, r10) := by rw [if_neg (show ¬ (false = true) by decide)] at H; exact H
                                clear H
                                have H := H1
                                clear H1
                                have H' := Aside0.mk H
                                clear H
                                go_wp2
                                repeat (go_quiet (fail); try go_wp2)
                                go_roundg kj38
                                case measure => have := HK1.out; have := HK2.out; have := HK3.out; have := HK4.out; have := HJ38.out; omega
                                case rel => exact ⟨(wrap64 (x9_3 + 1)), (x233004_4), (u233004), (by first | rfl | (simp; done) | (simp [*]; done)), H', ⟨by have := HK1.out; have := HK2.out; have := HK3.out; have := HK4.out; have := HJ38.out; omega⟩, ⟨by (with_reducible repeat (first | apply Kd.R_alloc | apply Kd.R_drewN | apply Kd.R_drew)); exact HO_233002.out⟩, ⟨by (with_reducible repeat (first | apply Kd.R_alloc | apply Kd.R_drewN | apply Kd.R_drew)); exact HO_233003.out⟩, ⟨by (with_reducible repeat (first | apply Kd.S_alloc | apply Kd.S_drewN | apply Kd.S_drew)); exact HO_233004.out⟩, ⟨by (with_reducible repeat (first | refine blk_drewN ?_ _ | refine blk_drew ?_ | refine blk_alloc ?_ _)); exact BK229.out⟩, ⟨by (with_reducible repeat (first | refine blk_drewN ?_ _ | refine blk_drew ?_ | refine blk_alloc ?_ _)); exact BK230.out⟩, ⟨by (with_reducible repeat (first | refine blk_drewN ?_ _ | refine blk_drew ?_ | refine blk_alloc ?_ _)); exact BK231.out⟩, ⟨by (with_reducible repeat (first | refine blk_drewN ?_ _ | refine blk_drew ?_ | refine blk_alloc ?_ _)); exact BK232.out⟩, ⟨by repeat (first | (with_reducible first | exact HB.out | apply below_alloc | apply pw_below_drewN | apply below_drew1 | refine below_set ?_ GE229.out | refine below_set ?_ GE230.out | refine below_set ?_ GE231.out | refine below_set ?_ GE232.out) | exact HB.out)⟩⟩
                    · rw [if_neg c38] at H
                      have c38b0 : decide (x9_3 < (wrap64 (1 + (Go.bits .and .i64 a0_0 3)))) = false := decide_eq_false c38
                      clear c38
                      obtain ⟨y258, hy258⟩ : ∃ y_ : List ByteArray, y_ = (([] : List ByteArray)) := ⟨_, rfl⟩
                      replace H : (if y258.length + x233002_1.length < 8796093022208 then ((some (([] : List ByteArray) : List ByteArray)).bind fun y264 => (if y264.length + x233003_2.length < 8796093022208 then (primerlaw15_made.l5 k3 0 (Int.tmod (wrap64 ((Int.tmod a0_2 (wrap64 (1 + (Go.bits .and .i64 a0_0 3)))) + (wrap64 (1 + (Go.bits .and .i64 a0_0 3))))) (wrap64 (1 + (Go.bits .and .i64 a0_0 3)))) (wrap64 (1 + (Go.bits .and .i64 a0_0 3))) x233002_1 x233003_2 x233004_3 (Int.tmod (wrap64 ((Int.tmod a0_2 (wrap64 (1 + (Go.bits .and .i64 a0_0 3)))) + (wrap64 (1 + (Go.bits .and .i64 a0_0 3))))) (wrap64 (1 + (Go.bits .and .i64 a0_0 3)))) (wrap64 (1 + (Go.bits .and .i64 a0_0 3))) (y258 ++ x233002_1) (y264 ++ x233003_2) ([] : List (S39))) else (none))) else (none)) = some (r1, r2, r3, r4, r5, r6, r7, r8, r9, r10) := by first | (rw [hy258]; with_reducible exact H) | (have H2_ := (Option.bind_some _ _).symm.trans H; rw [hy258]; with_reducible exact H2_) | (have H2_ := (Option.bind_some _ _).symm.trans H; with_reducible exact H2_) | with_reducible exact H | (rw [hy258]; exact H) | exact H
                      have Ny258 := Aside0.mk hy258
                      clear hy258
                      by_cases c103 : y258.length + x233002_1.length < 8796093022208
                      · rw [if_pos c103] at H
                        have LMc103 := Aside0.mk c103
                        clear c103
                        obtain ⟨y261, hy261⟩ : ∃ y_ : List ByteArray, y_ = (y258 ++ x233002_1) := ⟨_, rfl⟩
                        replace H : ((some (([] : List ByteArray) : List ByteArray)).bind fun y264 => (if y264.length + x233003_2.length < 8796093022208 then (primerlaw15_made.l5 k3 0 (Int.tmod (wrap64 ((Int.tmod a0_2 (wrap64 (1 + (Go.bits .and .i64 a0_0 3)))) + (wrap64 (1 + (Go.bits .and .i64 a0_0 3))))) (wrap64 (1 + (Go.bits .and .i64 a0_0 3)))) (wrap64 (1 + (Go.bits .and .i64 a0_0 3))) x233002_1 x233003_2 x233004_3 (Int.tmod (wrap64 ((Int.tmod a0_2 (wrap64 (1 + (Go.bits .and .i64 a0_0 3)))) + (wrap64 (1 + (Go.bits .and .i64 a0_0 3))))) (wrap64 (1 + (Go.bits .and .i64 a0_0 3)))) (wrap64 (1 + (Go.bits .and .i64 a0_0 3))) y261 (y264 ++ x233003_2) ([] : List (S39))) else (none))) = some (r1, r2, r3, r4, r5, r6, r7, r8, r9, r10) := by first | (rw [hy261]; with_reducible exact H) | (have H2_ := (Option.bind_some _ _).symm.trans H; rw [hy261]; with_reducible exact H2_) | (have H2_ := (Option.bind_some _ _).symm.trans H; with_reducible exact H2_) | with_reducible exact H | (rw [hy261]; exact H) | exact H
                        have Ny261 := Aside0.mk hy261
                        clear hy261
                        obtain ⟨y264, hy264⟩ : ∃ y_ : List ByteArray, y_ = (([] : List ByteArray)) := ⟨_, rfl⟩
                        replace H : (if y264.length + x233003_2.length < 8796093022208 then (primerlaw15_made.l5 k3 0 (Int.tmod (wrap64 ((Int.tmod a0_2 (wrap64 (1 + (Go.bits .and .i64 a0_0 3)))) + (wrap64 (1 + (Go.bits .and .i64 a0_0 3))))) (wrap64 (1 + (Go.bits .and .i64 a0_0 3)))) (wrap64 (1 + (Go.bits .and .i64 a0_0 3))) x233002_1 x233003_2 x233004_3 (Int.tmod (wrap64 ((Int.tmod a0_2 (wrap64 (1 + (Go.bits .and .i64 a0_0 3)))) + (wrap64 (1 + (Go.bits .and .i64 a0_0 3))))) (wrap64 (1 + (Go.bits .and .i64 a0_0 3)))) (wrap64 (1 + (Go.bits .and .i64 a0_0 3))) y261 (y264 ++ x233003_2) ([] : List (S39))) else (none)) = some (r1, r2, r3, r4, r5, r6, r7, r8, r9, r10) := by first | (rw [hy264]; with_reducible exact H) | (have H2_ := (Option.bind_some _ _).symm.trans H; rw [hy264]; with_reducible exact H2_) | (have H2_ := (Option.bind_some _ _).symm.trans H; with_reducible exact H2_) | with_reducible exact H | (rw [hy264]; exact H) | exact H
                        have Ny264 := Aside0.mk hy264
                        clear hy264
                        by_cases c104 : y264.length + x233003_2.length < 8796093022208
                        · rw [if_pos c104] at H
                          have LMc104 := Aside0.mk c104
                          clear c104
                          obtain ⟨y267, hy267⟩ : ∃ y_ : List ByteArray, y_ = (y264 ++ x233003_2) := ⟨_, rfl⟩
                          replace H : (primerlaw15_made.l5 k3 0 (Int.tmod (wrap64 ((Int.tmod a0_2 (wrap64 (1 + (Go.bits .and .i64 a0_0 3)))) + (wrap64 (1 + (Go.bits .and .i64 a0_0 3))))) (wrap64 (1 + (Go.bits .and .i64 a0_0 3)))) (wrap64 (1 + (Go.bits .and .i64 a0_0 3))) x233002_1 x233003_2 x233004_3 (Int.tmod (wrap64 ((Int.tmod a0_2 (wrap64 (1 + (Go.bits .and .i64 a0_0 3)))) + (wrap64 (1 + (Go.bits .and .i64 a0_0 3))))) (wrap64 (1 + (Go.bits .and .i64 a0_0 3)))) (wrap64 (1 + (Go.bits .and .i64 a0_0 3))) y261 y267 ([] : List (S39))) = some (r1, r2, r3, r4, r5, r6, r7, r8, r9, r10) := by first | (rw [hy267]; with_reducible exact H) | (have H2_ := (Option.bind_some _ _).symm.trans H; rw [hy267]; with_reducible exact H2_) | (have H2_ := (Option.bind_some _ _).symm.trans H; with_reducible exact H2_) | with_reducible exact H | (rw [hy267]; exact H) | exact H
                          have Ny267 := Aside0.mk hy267
                          clear hy267
                          have H' := Aside0.mk H
                          clear H
                          generalize (Int.tmod (wrap64 ((Int.tmod a0_2 (wrap64 (1 + (Go.bits .and .i64 a0_0 3)))) + (wrap64 (1 + (Go.bits .and .i64 a0_0 3))))) (wrap64 (1 + (Go.bits .and .i64 a0_0 3)))) = st at *
                          generalize (wrap64 (1 + (Go.bits .and .i64 a0_0 3))) = nn at *
                          obtain ⟨An, cn, en⟩ := Kd.R_slice HO_233002.out
                          subst en
                          obtain ⟨At, ct, et⟩ := Kd.R_slice HO_233003.out
                          subst et
                          have HNM : Hid (Kd.C (Kd.scalar Value.string (fun _ => rfl)) wr An x233002_1.length x233002_1) := (Kd.R_reads' HO_233002.out).2.2
                          have HTM : Hid (Kd.C (Kd.scalar Value.string (fun _ => rfl)) wr At x233003_2.length x233003_2) := (Kd.R_reads' HO_233003.out).2.2
                          have HY1 : Hid (y261 = x233002_1) := by rw [Ny261.out, Ny258.out]; rfl
                          have HY2 : Hid (y267 = x233003_2) := by rw [Ny267.out, Ny264.out]; rfl
                          have HLn : Hid (x233002_1.length * 16 ≤ 140737488355328) := by have := LMc103.out; show _ ≤ _; omega
                          have HLt : Hid (x233003_2.length * 16 ≤ 140737488355328) := by have := LMc104.out; show _ ≤ _; omega
                          have HLQ := Lib.hid (blk_lt BK232.out)
                          have HS24 : Hid (∀ W' : World, Below wr.heap.size wr W' → W'.cell? ⟨gb232, 0, none⟩ = some (.int .i64 st) ∧ W'.cell? ⟨gb232, 2, none⟩ = some (.slice An x233002_1.length cn) ∧ W'.cell? ⟨gb232, 3, none⟩ = some (.slice At x233003_2.length ct)) := fun W' hb =>
                            have h := (hb.block gb232 HLQ.out).trans BK232.out
                            ⟨(blk_cell h 0).trans rfl, (blk_cell h 2).trans rfl, (blk_cell h 3).trans rfl⟩
                          have HBr := Aside0.mk (below_drew (Below.refl wr.heap.size wr))
                          go_upto_region 24 with (fail)
                          go_cut [13] (fun v13 wc => ∃ (g : Nat) (A2 : Option Addr) (c2 : Nat) (A3 : Option Addr) (c3 : Nat), v13 = .pointer (some ⟨g, 0, none⟩) ∧ Hid (wr.heap.size ≤ g) ∧ Hid (wc.heap[g]? = some (.cells #[.int .i64 st, .int .i64 nn, .slice A2 x233002_1.length c2, .slice A3 x233003_2.length c3, .slice none 0 0] 26 (0, 0))) ∧ Hid (Kd.R Kd.string 9 wc wr.heap.size (fun _ => True) (.slice A2 x233002_1.length c2) x233002_1) ∧ Hid (Kd.R Kd.string 9 wc wr.heap.size (fun _ => True) (.slice A3 x233003_2.length c3) x233003_2) ∧ Hid (Below wr.heap.size wr wc))
                          case first =>
                            refine wp_region_noPanic ?_
                            refine start_ (n := 14) (S := fun w' => True) (ds := []) #[false, false, false, false, false, false, false, false, false, false, false, false, false, false] (by kernel_rfl) rfl rfl trivial (fun hHeld => ?_)
                            refine with_tabW primerlaw15_made.tab24 primerlaw15_made.bits24 (fun HT_ HW_ => ?_)
                            refine pure_ (i := 0) (N := some 145) (v := ?_) (a' := ?_) #[true, false, false, false, false, false, false, false, false, false, false, false, false, false] rfl rfl (any_of HT_.out (by kernel_rfl)) (fun _ _ _ h => h) (Or.inl ⟨by rfl, ?_⟩) ?_ ?_
                            rotate_left
                            · intro w'
                              go_simp
                              with_reducible rfl
                            rotate_left
                            · simp only [Act.put, List.setIfInBounds_toArray, List.set_cons_zero, List.set_cons_succ, i64_w, i32_w]
                              rfl
                            refine pure_ (i := 2) (N := some 147) (v := ?_) (a' := ?_) #[true, false, true, false, false, false, false, false, false, false, false, false, false, false] rfl rfl (any_of HT_.out (by kernel_rfl)) (fun _ _ _ h => h) (Or.inl ⟨by rfl, ?_⟩) ?_ ?_
                            rotate_left
                            · intro w'
                              go_simp
                              with_reducible rfl
                            rotate_left
                            · simp only [Act.put, List.setIfInBounds_toArray, List.set_cons_zero, List.set_cons_succ, i64_w, i32_w]
                              rfl
                            refine pure_ (i := 4) (N := some 149) (v := ?_) (a' := ?_) #[true, false, true, false, true, false, false, false, false, false, false, false, false, false] rfl rfl (any_of HT_.out (by kernel_rfl)) (fun _ _ _ h => h) (Or.inl ⟨by rfl, ?_⟩) ?_ ?_
                            rotate_left
                            · intro w'
                              go_simp
                              with_reducible rfl
                            rotate_left
                            · simp only [Act.put, List.setIfInBounds_toArray, List.set_cons_zero, List.set_cons_succ, i64_w, i32_w]
                              rfl
                            refine pure_ (i := 8) (N := some 153) (v := ?_) (a' := ?_) #[true, false, true, false, true, false, false, false, true, false, false, false, false, false] rfl rfl (any_of HT_.out (by kernel_rfl)) (fun _ _ _ h => h) (Or.inl ⟨by rfl, ?_⟩) ?_ ?_
                            rotate_left
                            · intro w'
                              go_simp
                              with_reducible rfl
                            rotate_left
                            · simp only [Act.put, List.setIfInBounds_toArray, List.set_cons_zero, List.set_cons_succ, i64_w, i32_w]
                              rfl
                            refine inv_at [1, 3, 5, 6, 7, 9, 10, 11, 12, 13] (fun a0_ b a w' => ∃ (gE1 : Nat) (gE2 : Nat) (Aa : Option Addr) (ca : Nat) (Ab : Option Addr) (cb : Nat) (g13 : Nat) (m3_ : Value) (m6_ : Value) (m7_ : Value) (m10_ : Value) (m11_ : Value) (m12_ : Value), a = putSel a0_ b [(1, 146, .int .i64 st), (3, 148, m3_), (5, 150, .slice An x233002_1.length cn), (6, 151, m6_), (7, 152, m7_), (9, 154, .slice At x233003_2.length ct), (10, 155, m10_), (11, 156, m11_), (12, 13, m12_)] ∧ (Below wr.heap.size wr w') ∧ (b 3 = true → (Kd.scalar Value.string (fun _ => rfl)).R 9 w' wr.heap.size (fun _ => True) (.slice (some ⟨gE1, 0, none⟩) 0 0) []) ∧ (b 7 = true → (Kd.scalar Value.string (fun _ => rfl)).R 9 w' wr.heap.size (fun _ => True) (.slice (some ⟨gE2, 0, none⟩) 0 0) []) ∧ (b 6 = true → (Kd.scalar Value.string (fun _ => rfl)).R 9 w' wr.heap.size (fun _ => True) (.slice Aa x233002_1.length ca) x233002_1) ∧ (b 10 = true → (Kd.scalar Value.string (fun _ => rfl)).R 9 w' wr.heap.size (fun _ => True) (.slice Ab x233003_2.length cb) x233003_2) ∧ (b 12 = true → wr.heap.size ≤ g13) ∧ (b 12 = true → b 13 = false → w'.heap[g13]? = some (.cells #[.int .i64 0, .int .i64 0, .slice none 0 0, .slice none 0 0, .slice none 0 0] 26 (0, 0))) ∧ (b 13 = true → w'.heap[g13]? = some (.cells #[.int .i64 st, .int .i64 nn, .slice Aa x233002_1.length ca, .slice Ab x233003_2.length cb, .slice none 0 0] 26 (0, 0))) ∧ (b 3 = true → (m3_ : Value) = .slice (some ⟨gE1, 0, none⟩) 0 0) ∧ (b 6 = true → (m6_ : Value) = .slice Aa x233002_1.length ca) ∧ (b 7 = true → (m7_ : Value) = .slice (some ⟨gE2, 0, none⟩) 0 0) ∧ (b 10 = true → (m10_ : Value) = .slice Ab x233003_2.length cb) ∧ (b 11 = true → (m11_ : Value) = .agg #[.int .i64 st, .int .i64 nn, .slice Aa x233002_1.length ca, .slice Ab x233003_2.length cb, .slice none 0 0]) ∧ (b 12 = true → (m12_ : Value) = .pointer (some ⟨g13, 0, none⟩))) HT_.out HW_.out (by kernel_rfl) (by kernel_rfl) ?_ ?_ ?_
                            · exact ⟨0, 0, none, 0, none, 0, 0, .bool false, .bool false, .bool false, .bool false, .bool false, .bool false, by simp only [putSel, Bool.false_eq_true, if_false], HBr.out, fun h_ => absurd h_ (by decide), fun h_ => absurd h_ (by decide), fun h_ => absurd h_ (by decide), fun h_ => absurd h_ (by decide), fun h_ => absurd h_ (by decide), fun h_ => absurd h_ (by decide), fun h_ => absurd h_ (by decide), fun h_ => absurd h_ (by decide), fun h_ => absurd h_ (by decide), fun h_ => absurd h_ (by decide), fun h_ => absurd h_ (by decide), fun h_ => absurd h_ (by decide), fun h_ => absurd h_ (by decide)⟩
                            · skip
                              clear HBr
                              refine steps_cons ?_ ?_
                              · rintro b a w' ⟨gE1, gE2, Aa, ca, Ab, cb, g13, m3_, m6_, m7_, m10_, m11_, m12_, ha, Q_HBr, Q_E1, Q_E2, Q_RA, Q_RB, Q_G13, Q_X13, Q_Y13, Q_X3_, Q_X6_, Q_X7_, Q_X10_, Q_X11_, Q_X12_⟩ hb_ hon hoff
                                refine ⟨_, rfl, fun K hK => ?_⟩
                                have e145 : a.tmps[145]? = some (.pointer (some ⟨gb232, 0, none⟩)) := by rw [ha]; exact (putSel_off rfl).trans rfl
                                replace ha := Aside0.mk ha
                                have HBr := Aside0.mk Q_HBr
                                have hz_ : w'.cell? ⟨gb232, 0, none⟩ = some (.int .i64 st) := (blk_cell ((HBr.out.block gb232 HLQ.out).trans BK232.out) 0).trans rfl
                                refine value_ (w1 := w') (v := .int .i64 st) (by rfl) rfl ?_ ?_
                                · go_simp
                                  (try simp only [i64_w])
                                  try rfl
                                refine hK.out _ _ ⟨gE1, gE2, Aa, ca, Ab, cb, g13, m3_, m6_, m7_, m10_, m11_, m12_, (by rw [ha.out]; exact putSel_upk 0 hb_ rfl rfl rfl), Q_HBr, Q_E1, Q_E2, Q_RA, Q_RB, Q_G13, Q_X13, fun h0_ => absurd ((hoff 13 (by kernel_rfl)).symm.trans h0_) (by decide), Q_X3_, Q_X6_, Q_X7_, Q_X10_, fun h0_ => absurd ((hoff 11 (by kernel_rfl)).symm.trans h0_) (by decide), Q_X12_⟩
                              refine steps_cons ?_ ?_
                              · rintro b a w' ⟨gE1, gE2, Aa, ca, Ab, cb, g13, m3_, m6_, m7_, m10_, m11_, m12_, ha, Q_HBr, Q_E1, Q_E2, Q_RA, Q_RB, Q_G13, Q_X13, Q_Y13, Q_X3_, Q_X6_, Q_X7_, Q_X10_, Q_X11_, Q_X12_⟩ hb_ hon hoff
                                refine ⟨_, rfl, fun K hK => ?_⟩
                                replace ha := Aside0.mk ha
                                have HBr := Aside0.mk Q_HBr
                                refine empty_lit_step (enc := Value.string) (h1 := fun _ => rfl) wr.heap.size 9 (by rfl) (N := 148) rfl ?hr HBr.out.size ?_
                                (case hr => first | (go_simp; done) | (go_simp; rfl))
                                intro gE1n w1 hE_ hbw_
                                refine hK.out _ _ ⟨gE1n, gE2, Aa, ca, Ab, cb, g13, (.slice (some ⟨gE1n, 0, none⟩) 0 0), m6_, m7_, m10_, m11_, m12_, (by rw [ha.out]; exact putSel_upk 1 hb_ rfl rfl rfl), (below_step (w := wr) HBr.out hbw_), fun _ => hE_, fun h0_ => (Kd.R_below (Q_E2 h0_) hbw_), fun h0_ => absurd ((hoff 6 (by kernel_rfl)).symm.trans h0_) (by decide), fun h0_ => absurd ((hoff 10 (by kernel_rfl)).symm.trans h0_) (by decide), Q_G13, fun h0_ h1_ => (blk_below_ (Q_X13 h0_ h1_) hbw_), fun h0_ => absurd ((hoff 13 (by kernel_rfl)).symm.trans h0_) (by decide), fun _ => rfl, fun h0_ => absurd ((hoff 6 (by kernel_rfl)).symm.trans h0_) (by decide), Q_X7_, fun h0_ => absurd ((hoff 10 (by kernel_rfl)).symm.trans h0_) (by decide), fun h0_ => absurd ((hoff 11 (by kernel_rfl)).symm.trans h0_) (by decide), Q_X12_⟩
                              refine steps_cons ?_ ?_
                              · rintro b a w' ⟨gE1, gE2, Aa, ca, Ab, cb, g13, m3_, m6_, m7_, m10_, m11_, m12_, ha, Q_HBr, Q_E1, Q_E2, Q_RA, Q_RB, Q_G13, Q_X13, Q_Y13, Q_X3_, Q_X6_, Q_X7_, Q_X10_, Q_X11_, Q_X12_⟩ hb_ hon hoff
                                refine ⟨_, rfl, fun K hK => ?_⟩
                                have e149 : a.tmps[149]? = some (.pointer (some ⟨gb232, 2, none⟩)) := by rw [ha]; exact (putSel_off rfl).trans rfl
                                replace ha := Aside0.mk ha
                                have HBr := Aside0.mk Q_HBr
                                have hz_ : w'.cell? ⟨gb232, 2, none⟩ = some (.slice An x233002_1.length cn) := (blk_cell ((HBr.out.block gb232 HLQ.out).trans BK232.out) 2).trans rfl
                                refine value_ (w1 := w') (v := .slice An x233002_1.length cn) (by rfl) rfl ?_ ?_
                                · go_simp
                                  (try simp only [i64_w])
                                  try rfl
                                refine hK.out _ _ ⟨gE1, gE2, Aa, ca, Ab, cb, g13, m3_, m6_, m7_, m10_, m11_, m12_, (by rw [ha.out]; exact putSel_upk 2 hb_ rfl rfl rfl), Q_HBr, Q_E1, Q_E2, fun h0_ => absurd ((hoff 6 (by kernel_rfl)).symm.trans h0_) (by decide), fun h0_ => absurd ((hoff 10 (by kernel_rfl)).symm.trans h0_) (by decide), Q_G13, Q_X13, fun h0_ => absurd ((hoff 13 (by kernel_rfl)).symm.trans h0_) (by decide), Q_X3_, fun h0_ => absurd ((hoff 6 (by kernel_rfl)).symm.trans h0_) (by decide), Q_X7_, fun h0_ => absurd ((hoff 10 (by kernel_rfl)).symm.trans h0_) (by decide), fun h0_ => absurd ((hoff 11 (by kernel_rfl)).symm.trans h0_) (by decide), Q_X12_⟩
                              refine steps_cons ?_ ?_
                              · rintro b a w' ⟨gE1, gE2, Aa, ca, Ab, cb, g13, m3_, m6_, m7_, m10_, m11_, m12_, ha, Q_HBr, Q_E1, Q_E2, Q_RA, Q_RB, Q_G13, Q_X13, Q_Y13, Q_X3_, Q_X6_, Q_X7_, Q_X10_, Q_X11_, Q_X12_⟩ hb_ hon hoff
                                refine ⟨_, rfl, fun K hK => ?_⟩
                                have e148 : a.tmps[148]? = some (m3_) := by rw [ha]; exact putSel_on (e := (3, 148, m3_)) 1 rfl rfl (hon 3 (by kernel_rfl)) rfl
                                rw [Q_X3_ (hon 3 (by kernel_rfl))] at e148
                                have e150 : a.tmps[150]? = some (.slice An x233002_1.length cn) := by rw [ha]; exact putSel_on (e := (5, 150, .slice An x233002_1.length cn)) 2 rfl rfl (hon 5 (by kernel_rfl)) rfl
                                replace ha := Aside0.mk ha
                                have HBr := Aside0.mk Q_HBr
                                have E1 := Aside0.mk (Q_E1 (hon 3 (by kernel_rfl)))
                                refine append_fresh_step (enc := Value.string) (h1 := fun _ => rfl) wr.heap.size (by rfl) (.tmp 148) (.tmp 150) 23 9 (.string ⟨#[]⟩) 16 rfl Try.underlying23 info9 rfl gE1 x233002_1 An _ cn (by first | (simp only [List.map_toArray, List.map_cons, List.map_nil, Act.eval, Array.getD_eq_getD_getElem?, Option.getD_some, e148, e150]; done) | (simp only [List.map_toArray, List.map_cons, List.map_nil, Act.eval, Array.getD_eq_getD_getElem?, Option.getD_some, e148, e150]; rfl)) (by first | (simp only [List.map_toArray, List.map_cons, List.map_nil, Act.eval, Array.getD_eq_getD_getElem?, Option.getD_some, e148, e150]; done) | (simp only [List.map_toArray, List.map_cons, List.map_nil, Act.eval, Array.getD_eq_getD_getElem?, Option.getD_some, e148, e150]; rfl)) E1.out (Kd.C_below HNM.out HBr.out) HBr.out.size (by decide) HLn.out ?_
                                intro v_ w1 hR_ hbw_
                                obtain ⟨Aan, can, e_⟩ := Kd.R_slice hR_
                                subst e_
                                refine hK.out _ _ ⟨gE1, gE2, Aan, can, Ab, cb, g13, m3_, (.slice Aan x233002_1.length can), m7_, m10_, m11_, m12_, (by rw [ha.out]; exact putSel_upk 3 hb_ rfl rfl rfl), (below_step (w := wr) HBr.out hbw_), fun _ => (Kd.R_below E1.out hbw_), fun h0_ => (Kd.R_below (Q_E2 h0_) hbw_), fun _ => hR_, fun h0_ => absurd ((hoff 10 (by kernel_rfl)).symm.trans h0_) (by decide), Q_G13, fun h0_ h1_ => (blk_below_ (Q_X13 h0_ h1_) hbw_), fun h0_ => absurd ((hoff 13 (by kernel_rfl)).symm.trans h0_) (by decide), Q_X3_, fun _ => rfl, Q_X7_, fun h0_ => absurd ((hoff 10 (by kernel_rfl)).symm.trans h0_) (by decide), fun h0_ => absurd ((hoff 11 (by kernel_rfl)).symm.trans h0_) (by decide), Q_X12_⟩
                              refine steps_cons ?_ ?_
                              · rintro b a w' ⟨gE1, gE2, Aa, ca, Ab, cb, g13, m3_, m6_, m7_, m10_, m11_, m12_, ha, Q_HBr, Q_E1, Q_E2, Q_RA, Q_RB, Q_G13, Q_X13, Q_Y13, Q_X3_, Q_X6_, Q_X7_, Q_X10_, Q_X11_, Q_X12_⟩ hb_ hon hoff
                                refine ⟨_, rfl, fun K hK => ?_⟩
                                replace ha := Aside0.mk ha
                                have HBr := Aside0.mk Q_HBr
                                refine empty_lit_step (enc := Value.string) (h1 := fun _ => rfl) wr.heap.size 9 (by rfl) (N := 152) rfl ?hr HBr.out.size ?_
                                (case hr => first | (go_simp; done) | (go_simp; rfl))
                                intro gE2n w1 hE_ hbw_
                                refine hK.out _ _ ⟨gE1, gE2n, Aa, ca, Ab, cb, g13, m3_, m6_, (.slice (some ⟨gE2n, 0, none⟩) 0 0), m10_, m11_, m12_, (by rw [ha.out]; exact putSel_upk 4 hb_ rfl rfl rfl), (below_step (w := wr) HBr.out hbw_), fun h0_ => (Kd.R_below (Q_E1 h0_) hbw_), fun _ => hE_, fun h0_ => (Kd.R_below (Q_RA h0_) hbw_), fun h0_ => absurd ((hoff 10 (by kernel_rfl)).symm.trans h0_) (by decide), Q_G13, fun h0_ h1_ => (blk_below_ (Q_X13 h0_ h1_) hbw_), fun h0_ => absurd ((hoff 13 (by kernel_rfl)).symm.trans h0_) (by decide), Q_X3_, Q_X6_, fun _ => rfl, fun h0_ => absurd ((hoff 10 (by kernel_rfl)).symm.trans h0_) (by decide), fun h0_ => absurd ((hoff 11 (by kernel_rfl)).symm.trans h0_) (by decide), Q_X12_⟩
                              refine steps_cons ?_ ?_
                              · rintro b a w' ⟨gE1, gE2, Aa, ca, Ab, cb, g13, m3_, m6_, m7_, m10_, m11_, m12_, ha, Q_HBr, Q_E1, Q_E2, Q_RA, Q_RB, Q_G13, Q_X13, Q_Y13, Q_X3_, Q_X6_, Q_X7_, Q_X10_, Q_X11_, Q_X12_⟩ hb_ hon hoff
                                refine ⟨_, rfl, fun K hK => ?_⟩
                                have e153 : a.tmps[153]? = some (.pointer (some ⟨gb232, 3, none⟩)) := by rw [ha]; exact (putSel_off rfl).trans rfl
                                replace ha := Aside0.mk ha
                                have HBr := Aside0.mk Q_HBr
                                have hz_ : w'.cell? ⟨gb232, 3, none⟩ = some (.slice At x233003_2.length ct) := (blk_cell ((HBr.out.block gb232 HLQ.out).trans BK232.out) 3).trans rfl
                                refine value_ (w1 := w') (v := .slice At x233003_2.length ct) (by rfl) rfl ?_ ?_
                                · go_simp
                                  (try simp only [i64_w])
                                  try rfl
                                refine hK.out _ _ ⟨gE1, gE2, Aa, ca, Ab, cb, g13, m3_, m6_, m7_, m10_, m11_, m12_, (by rw [ha.out]; exact putSel_upk 5 hb_ rfl rfl rfl), Q_HBr, Q_E1, Q_E2, Q_RA, fun h0_ => absurd ((hoff 10 (by kernel_rfl)).symm.trans h0_) (by decide), Q_G13, Q_X13, fun h0_ => absurd ((hoff 13 (by kernel_rfl)).symm.trans h0_) (by decide), Q_X3_, Q_X6_, Q_X7_, fun h0_ => absurd ((hoff 10 (by kernel_rfl)).symm.trans h0_) (by decide), fun h0_ => absurd ((hoff 11 (by kernel_rfl)).symm.trans h0_) (by decide), Q_X12_⟩
                              refine steps_cons ?_ ?_
                              · rintro b a w' ⟨gE1, gE2, Aa, ca, Ab, cb, g13, m3_, m6_, m7_, m10_, m11_, m12_, ha, Q_HBr, Q_E1, Q_E2, Q_RA, Q_RB, Q_G13, Q_X13, Q_Y13, Q_X3_, Q_X6_, Q_X7_, Q_X10_, Q_X11_, Q_X12_⟩ hb_ hon hoff
                                refine ⟨_, rfl, fun K hK => ?_⟩
                                have e152 : a.tmps[152]? = some (m7_) := by rw [ha]; exact putSel_on (e := (7, 152, m7_)) 4 rfl rfl (hon 7 (by kernel_rfl)) rfl
                                rw [Q_X7_ (hon 7 (by kernel_rfl))] at e152
                                have e154 : a.tmps[154]? = some (.slice At x233003_2.length ct) := by rw [ha]; exact putSel_on (e := (9, 154, .slice At x233003_2.length ct)) 5 rfl rfl (hon 9 (by kernel_rfl)) rfl
                                replace ha := Aside0.mk ha
                                have HBr := Aside0.mk Q_HBr
                                have E1 := Aside0.mk (Q_E1 (hon 3 (by kernel_rfl)))
                                have E2 := Aside0.mk (Q_E2 (hon 7 (by kernel_rfl)))
                                have RA := Aside0.mk (Q_RA (hon 6 (by kernel_rfl)))
                                refine append_fresh_step (enc := Value.string) (h1 := fun _ => rfl) wr.heap.size (by rfl) (.tmp 152) (.tmp 154) 23 9 (.string ⟨#[]⟩) 16 rfl Try.underlying23 info9 rfl gE2 x233003_2 At _ ct (by first | (simp only [List.map_toArray, List.map_cons, List.map_nil, Act.eval, Array.getD_eq_getD_getElem?, Option.getD_some, e152, e154]; done) | (simp only [List.map_toArray, List.map_cons, List.map_nil, Act.eval, Array.getD_eq_getD_getElem?, Option.getD_some, e152, e154]; rfl)) (by first | (simp only [List.map_toArray, List.map_cons, List.map_nil, Act.eval, Array.getD_eq_getD_getElem?, Option.getD_some, e152, e154]; done) | (simp only [List.map_toArray, List.map_cons, List.map_nil, Act.eval, Array.getD_eq_getD_getElem?, Option.getD_some, e152, e154]; rfl)) E2.out (Kd.C_below HTM.out HBr.out) HBr.out.size (by decide) HLt.out ?_
                                intro v_ w1 hR_ hbw_
                                obtain ⟨Abn, cbn, e_⟩ := Kd.R_slice hR_
                                subst e_
                                refine hK.out _ _ ⟨gE1, gE2, Aa, ca, Abn, cbn, g13, m3_, m6_, m7_, (.slice Abn x233003_2.length cbn), m11_, m12_, (by rw [ha.out]; exact putSel_upk 6 hb_ rfl rfl rfl), (below_step (w := wr) HBr.out hbw_), fun _ => (Kd.R_below E1.out hbw_), fun _ => (Kd.R_below E2.out hbw_), fun _ => (Kd.R_below RA.out hbw_), fun _ => hR_, Q_G13, fun h0_ h1_ => (blk_below_ (Q_X13 h0_ h1_) hbw_), fun h0_ => absurd ((hoff 13 (by kernel_rfl)).symm.trans h0_) (by decide), Q_X3_, Q_X6_, Q_X7_, fun _ => rfl, fun h0_ => absurd ((hoff 11 (by kernel_rfl)).symm.trans h0_) (by decide), Q_X12_⟩
                              refine steps_cons ?_ ?_
                              · rintro b a w' ⟨gE1, gE2, Aa, ca, Ab, cb, g13, m3_, m6_, m7_, m10_, m11_, m12_, ha, Q_HBr, Q_E1, Q_E2, Q_RA, Q_RB, Q_G13, Q_X13, Q_Y13, Q_X3_, Q_X6_, Q_X7_, Q_X10_, Q_X11_, Q_X12_⟩ hb_ hon hoff
                                refine ⟨_, rfl, fun K hK => ?_⟩
                                have e146 : a.tmps[146]? = some (.int .i64 st) := by rw [ha]; exact putSel_on (e := (1, 146, .int .i64 st)) 0 rfl rfl (hon 1 (by kernel_rfl)) rfl
                                have e147 : a.tmps[147]? = some (.int .i64 nn) := by rw [ha]; exact (putSel_off rfl).trans rfl
                                have e151 : a.tmps[151]? = some (m6_) := by rw [ha]; exact putSel_on (e := (6, 151, m6_)) 3 rfl rfl (hon 6 (by kernel_rfl)) rfl
                                rw [Q_X6_ (hon 6 (by kernel_rfl))] at e151
                                have e155 : a.tmps[155]? = some (m10_) := by rw [ha]; exact putSel_on (e := (10, 155, m10_)) 6 rfl rfl (hon 10 (by kernel_rfl)) rfl
                                rw [Q_X10_ (hon 10 (by kernel_rfl))] at e155
                                replace ha := Aside0.mk ha
                                have HBr := Aside0.mk Q_HBr
                                have E1 := Aside0.mk (Q_E1 (hon 3 (by kernel_rfl)))
                                have E2 := Aside0.mk (Q_E2 (hon 7 (by kernel_rfl)))
                                have RA := Aside0.mk (Q_RA (hon 6 (by kernel_rfl)))
                                have RB := Aside0.mk (Q_RB (hon 10 (by kernel_rfl)))
                                refine value_ (w1 := w') (v := .agg #[.int .i64 st, .int .i64 nn, .slice Aa x233002_1.length ca, .slice Ab x233003_2.length cb, .slice none 0 0]) (by rfl) rfl ?_ ?_
                                · go_simp
                                  (try simp only [i64_w])
                                  try rfl
                                refine hK.out _ _ ⟨gE1, gE2, Aa, ca, Ab, cb, g13, m3_, m6_, m7_, m10_, (.agg #[.int .i64 st, .int .i64 nn, .slice Aa x233002_1.length ca, .slice Ab x233003_2.length cb, .slice none 0 0]), m12_, (by rw [ha.out]; exact putSel_upk 7 hb_ rfl rfl rfl), Q_HBr, Q_E1, Q_E2, Q_RA, Q_RB, Q_G13, Q_X13, fun h0_ => absurd ((hoff 13 (by kernel_rfl)).symm.trans h0_) (by decide), Q_X3_, Q_X6_, Q_X7_, Q_X10_, fun _ => rfl, Q_X12_⟩
                              refine steps_cons ?_ ?_
                              · rintro b a w' ⟨gE1, gE2, Aa, ca, Ab, cb, g13, m3_, m6_, m7_, m10_, m11_, m12_, ha, Q_HBr, Q_E1, Q_E2, Q_RA, Q_RB, Q_G13, Q_X13, Q_Y13, Q_X3_, Q_X6_, Q_X7_, Q_X10_, Q_X11_, Q_X12_⟩ hb_ hon hoff
                                refine ⟨_, rfl, fun K hK => ?_⟩
                                replace ha := Aside0.mk ha
                                have HBr := Aside0.mk Q_HBr
                                refine box_step (by rfl) (N := 13) rfl (cs := #[.int .i64 0, .int .i64 0, .slice none 0 0, .slice none 0 0, .slice none 0 0]) (t := 26) ?hr ?_
                                (case hr => first | (go_simp; done) | (go_simp; rfl))
                                intro g13n hg_ w1 hX_ hbw_
                                refine hK.out _ _ ⟨gE1, gE2, Aa, ca, Ab, cb, g13n, m3_, m6_, m7_, m10_, m11_, (.pointer (some ⟨g13n, 0, none⟩)), (by rw [ha.out]; exact putSel_upk 8 hb_ rfl rfl rfl), (below_step (w := wr) HBr.out hbw_), fun h0_ => (Kd.R_below (Q_E1 h0_) hbw_), fun h0_ => (Kd.R_below (Q_E2 h0_) hbw_), fun h0_ => (Kd.R_below (Q_RA h0_) hbw_), fun h0_ => (Kd.R_below (Q_RB h0_) hbw_), fun _ => (by rw [hg_]; exact HBr.out.size), fun _ _ => hX_, fun h0_ => absurd ((hoff 13 (by kernel_rfl)).symm.trans h0_) (by decide), Q_X3_, Q_X6_, Q_X7_, Q_X10_, Q_X11_, fun _ => rfl⟩
                              refine steps_cons ?_ ?_
                              · rintro b a w' ⟨gE1, gE2, Aa, ca, Ab, cb, g13, m3_, m6_, m7_, m10_, m11_, m12_, ha, Q_HBr, Q_E1, Q_E2, Q_RA, Q_RB, Q_G13, Q_X13, Q_Y13, Q_X3_, Q_X6_, Q_X7_, Q_X10_, Q_X11_, Q_X12_⟩ hb_ hon hoff
                                refine ⟨_, rfl, fun K hK => ?_⟩
                                have e13 : a.tmps[13]? = some (m12_) := by rw [ha]; exact putSel_on (e := (12, 13, m12_)) 8 rfl rfl (hon 12 (by kernel_rfl)) rfl
                                rw [Q_X12_ (hon 12 (by kernel_rfl))] at e13
                                have e156 : a.tmps[156]? = some (m11_) := by rw [ha]; exact putSel_on (e := (11, 156, m11_)) 7 rfl rfl (hon 11 (by kernel_rfl)) rfl
                                rw [Q_X11_ (hon 11 (by kernel_rfl))] at e156
                                replace ha := Aside0.mk ha
                                have HBr := Aside0.mk Q_HBr
                                have E1 := Aside0.mk (Q_E1 (hon 3 (by kernel_rfl)))
                                have E2 := Aside0.mk (Q_E2 (hon 7 (by kernel_rfl)))
                                have RA := Aside0.mk (Q_RA (hon 6 (by kernel_rfl)))
                                have RB := Aside0.mk (Q_RB (hon 10 (by kernel_rfl)))
                                have G13 := Aside0.mk (Q_G13 (hon 12 (by kernel_rfl)))
                                have X13 := Aside0.mk (Q_X13 (hon 12 (by kernel_rfl)) hb_)
                                obtain ⟨⟨xa0, xa1, xa2, xa3, xa4⟩, xb0, xb1, xb2, xb3, xb4⟩ := facts5 X13.out
                                refine skip_ (w1 := (((((w'.setCell ⟨g13, 0, none⟩ (.int .i64 st)).setCell ⟨g13, 1, none⟩ (.int .i64 nn)).setCell ⟨g13, 2, none⟩ (.slice Aa x233002_1.length ca)).setCell ⟨g13, 3, none⟩ (.slice Ab x233003_2.length cb)).setCell ⟨g13, 4, none⟩ (.slice none 0 0))) (by rfl) rfl ?_ ?_
                                · go_simp
                                refine hK.out _ _ ⟨gE1, gE2, Aa, ca, Ab, cb, g13, m3_, m6_, m7_, m10_, m11_, m12_, (by rw [ha.out]; exact putSel_none (v := undef) rfl), (below_put5 HBr.out G13.out _ _ _ _ _), fun _ => (R_put5 E1.out X13.out (by decide) _ _ _ _ _), fun _ => (R_put5 E2.out X13.out (by decide) _ _ _ _ _), fun _ => (R_put5 RA.out X13.out (by decide) _ _ _ _ _), fun _ => (R_put5 RB.out X13.out (by decide) _ _ _ _ _), Q_G13, fun _ h1_ => absurd ((up_self b 13).symm.trans h1_) (by decide), fun _ => (put5 X13.out _ _ _ _ _), Q_X3_, Q_X6_, Q_X7_, Q_X10_, Q_X11_, Q_X12_⟩
                              exact steps_nil
                            · rintro b a w' hall ⟨gE1, gE2, Aa, ca, Ab, cb, g13, m3_, m6_, m7_, m10_, m11_, m12_, ha, Q_HBr, Q_E1, Q_E2, Q_RA, Q_RB, Q_G13, Q_X13, Q_Y13, Q_X3_, Q_X6_, Q_X7_, Q_X10_, Q_X11_, Q_X12_⟩
                              clear HBr
                              have hb1_ := hall 1 (by kernel_rfl)
                              have hb3_ := hall 3 (by kernel_rfl)
                              have hb5_ := hall 5 (by kernel_rfl)
                              have hb6_ := hall 6 (by kernel_rfl)
                              have hb7_ := hall 7 (by kernel_rfl)
                              have hb9_ := hall 9 (by kernel_rfl)
                              have hb10_ := hall 10 (by kernel_rfl)
                              have hb11_ := hall 11 (by kernel_rfl)
                              have hb12_ := hall 12 (by kernel_rfl)
                              have hb13_ := hall 13 (by kernel_rfl)
                              subst ha
                              obtain rfl := Q_X3_ hb3_
                              obtain rfl := Q_X6_ hb6_
                              obtain rfl := Q_X7_ hb7_
                              obtain rfl := Q_X10_ hb10_
                              obtain rfl := Q_X11_ hb11_
                              obtain rfl := Q_X12_ hb12_
                              simp only [putSel, hb1_, hb3_, hb5_, hb6_, hb7_, hb9_, hb10_, hb11_, hb12_, hb13_, if_true, Act.put, List.setIfInBounds_toArray, List.set_cons_zero, List.set_cons_succ]
                              have HBr := Aside0.mk Q_HBr
                              clear Q_HBr
                              have E1 := Aside0.mk (Q_E1 hb3_)
                              clear Q_E1
                              have E2 := Aside0.mk (Q_E2 hb7_)
                              clear Q_E2
                              have RA := Aside0.mk (Q_RA hb6_)
                              clear Q_RA
                              have RB := Aside0.mk (Q_RB hb10_)
                              clear Q_RB
                              have G13 := Aside0.mk (Q_G13 hb12_)
                              clear Q_G13
                              clear Q_X13
                              have Y13 := Aside0.mk (Q_Y13 hb13_)
                              clear Q_Y13
                              clear hall hb1_ hb3_ hb5_ hb6_ hb7_ hb9_ hb10_ hb11_ hb12_ hb13_
                              refine NoPanic.normal ?_
                              go_wp2
                              go_meet
                              case rel => exact ⟨g13, Aa, ca, Ab, cb, rfl, Lib.hid G13.out, Lib.hid Y13.out, Lib.hid RA.out, Lib.hid RB.out, Lib.hid HBr.out⟩
                          case rest =>
                            go_wp2_with fail
                            obtain ⟨g, A2, c2, A3, c3, rfl, HGG, HBg0, HR2w, HR3w, HBwc⟩ := hcut
                            obtain ⟨A4, c4, e4, hlc4, hC4⟩ := Kd.S_reads HO_233004.out
                            subst e4
                            have HC4 := Lib.hid hC4
                            have HB2 := Lib.hid BK230.out
                            have HB3 := Lib.hid BK231.out
                            have HB4 := Lib.hid BK232.out
                            have HBW := Lib.hid HB.out
                            have HQ2 := Lib.hid (Kd.R_mono (ok' := fun _ => True) HO_233002.out (fun _ _ => trivial))
                            have HQ3 := Lib.hid (Kd.R_mono (ok' := fun _ => True) HO_233003.out (fun _ _ => trivial))
                            have HQ4 := Lib.hid (Kd.S_R HO_233004.out)
                            have H5 := Lib.hid (made_l5 k3 [] st nn x233002_1 x233003_2 x233004_3 st nn y261 y267 _ H'.out (Nat.zero_le _))
                            have HLX : Hid (x233004_3.length ≤ 4398046511104) := by
                              show _ ≤ _
                              rcases Nat.eq_zero_or_pos x233004_3.length with h0 | h0
                              · omega
                              · exact H5.out.1 h0
                            clear hC4 hlc4 HO_233002 HO_233003 HO_233004 BK229 BK230 BK231 BK232 HB HNM HTM HLn HLt HS24 HBr
                            obtain ⟨wq, rfl⟩ : ∃ wq : World, wq = wr := ⟨_, rfl⟩
                            go_loopw [14] (fun v14 wl => ∃ (i : Nat) (vA : Option Addr) (vc : Nat), v14 = .int .i64 i ∧ i ≤ x233004_3.length ∧ Hid (wl.heap[g]? = some (.cells #[.int .i64 st, .int .i64 nn, .slice A2 x233002_1.length c2, .slice A3 x233003_2.length c3, .slice vA ((x233004_3.take i).map convP).length vc] 26 (0, 0))) ∧ Hid (Kd.R k39 39 wl wq.heap.size (fun _ => True) (.slice vA ((x233004_3.take i).map convP).length vc) ((x233004_3.take i).map convP)) ∧ Hid (Kd.R Kd.string 9 wl wq.heap.size (fun _ => True) (.slice A2 x233002_1.length c2) x233002_1) ∧ Hid (Kd.R Kd.string 9 wl wq.heap.size (fun _ => True) (.slice A3 x233003_2.length c3) x233003_2) ∧ Hid (Below wq.heap.size wq wl)) (fun v14 _ => x233004_3.length - (intOf v14).toNat)
                            case atStart => exact ⟨0, none, 0, rfl, Nat.zero_le _, HBg0, Lib.hid (Kd.R_nil _ _ _ _ _), HR2w, HR3w, HBwc⟩
                            case round =>
                              rename World => wl
                              obtain ⟨i, vA, vc, rfl, hi, HBg, HR4, HR2, HR3, HBl⟩ := hrel
                              have hmx := Kd.C_max HC4.out
                              have HB4l := Lib.hid (blk_below_ HB4.out HBl.out)
                              have q4 : wl.cell? ⟨gb232, 4, none⟩ = some (.slice A4 x233004_3.length c4) := (blk_cell HB4l.out 4).trans rfl
                              by_cases hlt : i < x233004_3.length
                              · obtain ⟨ad, A1, c1, e1, x0, x1, x2, x3⟩ := at_T64 (Kd.C_below HC4.out HBl.out) (i : Int) (by omega) (by omega)
                                subst e1
                                have hn : (x233004_3.take (i + 1)).map convP = (x233004_3.take i).map convP ++ [convP (rd_T64 x233004_3 i)] := by
                                  rw [List.take_succ_eq_append_getElem hlt, List.map_append, List.map_singleton]
                                  have e : rd_T64 x233004_3 (i : Int) = x233004_3[i] := by simp [rd_T64, List.getD_eq_getElem?_getD, List.getElem?_eq_getElem hlt]
                                  rw [e]
                                have hym : rd_T64 x233004_3 (i : Int) ∈ x233004_3.drop ([] : List S39).length := by
                                  have e : rd_T64 x233004_3 (i : Int) = x233004_3[i] := by simp [rd_T64, List.getD_eq_getElem?_getD, List.getElem?_eq_getElem hlt]
                                  rw [e]
                                  exact List.getElem_mem hlt
                                have hol : ((x233004_3.take i).map convP).length = i := by rw [List.length_map, List.length_take]; omega
                                generalize (x233004_3.take i).map convP = old at *
                                rw [Int.toNat_natCast] at x0 x1
                                generalize rd_T64 x233004_3 (i : Int) = y at *
                                obtain ⟨yl, yr⟩ := y
                                simp only at x0 x1 x2 x3
                                have HN := Lib.hid hn
                                have HLT := Lib.hid hlt
                                have HX0 := Lib.hid x0
                                have HX1 := Lib.hid x1
                                have HXC : Hid (Kd.C (Kd.scalar (Value.int .i64) (fun _ => rfl)) wl A1 yr.length yr) := x3
                                have HLR : Hid (yr.length * 8 ≤ 140737488355328) := by have := H5.out.2.2 _ hym; show _ ≤ _; simp only at this; omega
                                have HLL : Hid ((old.length + 1) * 32 ≤ 140737488355328) := by have := HLX.out; show _ ≤ _; omega
                                have HOK : Hid (∀ q, wl.heap.size ≤ q → True ∧ some q ≠ (Value.slice vA old.length vc).ownBlock) := fun q hq => ⟨trivial, fun e => by
                                  obtain ⟨cells, hc⟩ := Kd.R_typed HR4.out q e.symm
                                  have := blk_lt hc
                                  exact Nat.lt_irrefl _ (Nat.lt_of_lt_of_le this hq)⟩
                                have HGW : Hid (wq.heap.size ≤ g) := HGG
                                clear hn hol x0 x1 x2 x3 hmx hym
                                have HBr := Aside0.mk (below_drew (Below.refl wl.heap.size wl))
                                go_upto_region 28 with (fail)
                                clear q4
                                refine wp_region_noPanic ?_
                                refine start_ (n := 21) (S := fun w' => True) (ds := []) #[false, false, false, false, false, false, false, false, false, false, false, false, false, false, false, false, false, false, false, false, false] (by kernel_rfl) rfl rfl trivial (fun hHeld => ?_)
                                refine with_tabW primerlaw15_made.tab28 primerlaw15_made.bits28 (fun HT_ HW_ => ?_)
                                refine pure_ (i := 0) (N := some 164) (v := ?_) (a' := ?_) #[true, false, false, false, false, false, false, false, false, false, false, false, false, false, false, false, false, false, false, false, false] rfl rfl (any_of HT_.out (by kernel_rfl)) (fun _ _ _ h => h) (Or.inl ⟨by rfl, ?_⟩) ?_ ?_
                                rotate_left
                                · intro w'
                                  go_simp
                                  with_reducible rfl
                                rotate_left
                                · simp only [Act.put, List.setIfInBounds_toArray, List.set_cons_zero, List.set_cons_succ, i64_w, i32_w]
                                  rfl
                                refine pure_ (i := 2) (N := some 166) (v := ?_) (a' := ?_) #[true, false, true, false, false, false, false, false, false, false, false, false, false, false, false, false, false, false, false, false, false] rfl rfl (any_of HT_.out (by kernel_rfl)) (fun _ _ _ h => h) (Or.inl ⟨by rfl, ?_⟩) ?_ ?_
                                rotate_left
                                · intro w'
                                  go_simp
                                  with_reducible rfl
                                rotate_left
                                · simp only [Act.put, List.setIfInBounds_toArray, List.set_cons_zero, List.set_cons_succ, i64_w, i32_w]
                                  rfl
                                refine pure_ (i := 4) (N := some 168) (v := ?_) (a' := ?_) #[true, false, true, false, true, false, false, false, false, false, false, false, false, false, false, false, false, false, false, false, false] rfl rfl (any_of HT_.out (by kernel_rfl)) (fun _ _ _ h => h) (Or.inl ⟨by rfl, ?_⟩) ?_ ?_
                                rotate_left
                                · intro w'
                                  go_simp
                                  with_reducible rfl
                                rotate_left
                                · simp only [Act.put, List.setIfInBounds_toArray, List.set_cons_zero, List.set_cons_succ, i64_w, i32_w]
                                  rfl
                                refine pure_ (i := 9) (N := some 173) (v := ?_) (a' := ?_) #[true, false, true, false, true, false, false, false, false, true, false, false, false, false, false, false, false, false, false, false, false] rfl rfl (any_of HT_.out (by kernel_rfl)) (fun _ _ _ h => h) (Or.inl ⟨by rfl, ?_⟩) ?_ ?_
                                rotate_left
                                · intro w'
                                  go_simp
                                  with_reducible rfl
                                rotate_left
                                · simp only [Act.put, List.setIfInBounds_toArray, List.set_cons_zero, List.set_cons_succ, i64_w, i32_w]
                                  rfl
                                refine pure_ (i := 11) (N := some 175) (v := ?_) (a' := ?_) #[true, false, true, false, true, false, false, false, false, true, false, true, false, false, false, false, false, false, false, false, false] rfl rfl (any_of HT_.out (by kernel_rfl)) (fun _ _ _ h => h) (Or.inl ⟨by rfl, ?_⟩) ?_ ?_
                                rotate_left
                                · intro w'
                                  go_simp
                                  with_reducible rfl
                                rotate_left
                                · simp only [Act.put, List.setIfInBounds_toArray, List.set_cons_zero, List.set_cons_succ, i64_w, i32_w]
                                  rfl
                                refine inv_at [1, 3, 5, 6, 7, 8, 10, 12, 13, 14, 15, 16, 17, 18, 19, 20] (fun a0_ b a w' => ∃ (gE : Nat) (Aa : Option Addr) (ca : Nat) (gL : Nat) (W0 : World) (vAn : Option Addr) (vcn : Nat) (m8_ : Value) (m15_ : Value) (m16_ : Value) (m17_ : Value) (m18_ : Value), a = putSel a0_ b [(1, 165, .slice vA old.length vc), (3, 167, .slice (some ad) x233004_3.length c4), (5, 169, .pointer (some (ad.add (i * 2)))), (6, 170, .pointer (some (ad.add (i * 2)))), (7, 171, .int .i64 yl), (8, 172, m8_), (10, 174, .slice (some ad) x233004_3.length c4), (12, 176, .pointer (some (ad.add (i * 2)))), (13, 177, .pointer (some ⟨(ad.add (i * 2)).block, (ad.add (i * 2)).off + 1, none⟩)), (14, 178, .slice A1 yr.length c1), (15, 179, m15_), (16, 180, m16_), (17, 181, m17_), (18, 182, m18_), (19, 183, .pointer (some ⟨g, 4, none⟩))] ∧ (b 18 = false → Below wl.heap.size wl w') ∧ (b 8 = true → b 15 = false → (Kd.scalar (Value.int .i64) (fun _ => rfl)).R 3 w' wl.heap.size (fun _ => True) (.slice (some ⟨gE, 0, none⟩) 0 0) []) ∧ (b 15 = true → b 17 = false → (Kd.scalar (Value.int .i64) (fun _ => rfl)).R 3 w' wl.heap.size (fun _ => True) (.slice Aa yr.length ca) yr) ∧ (b 17 = true → b 18 = false → w' = W0.alloc (.cells #[.int .i64 yl, .slice Aa yr.length ca] 39) ∧ gL = W0.heap.size ∧ Below wl.heap.size wl W0 ∧ (Kd.scalar (Value.int .i64) (fun _ => rfl)).R 3 W0 wl.heap.size (fun _ => True) (.slice Aa yr.length ca) yr) ∧ (b 18 = true → Kd.R k39 39 w' wq.heap.size (fun _ => True) (.slice vAn (old ++ [(⟨yl, yr⟩ : S39)]).length vcn) (old ++ [(⟨yl, yr⟩ : S39)])) ∧ (b 18 = true → Below wq.heap.size wq w') ∧ (b 18 = true → Kd.R Kd.string 9 w' wq.heap.size (fun _ => True) (.slice A2 x233002_1.length c2) x233002_1) ∧ (b 18 = true → Kd.R Kd.string 9 w' wq.heap.size (fun _ => True) (.slice A3 x233003_2.length c3) x233003_2) ∧ (b 18 = true → b 20 = false → w'.heap[g]? = some (.cells #[.int .i64 st, .int .i64 nn, .slice A2 x233002_1.length c2, .slice A3 x233003_2.length c3, .slice vA old.length vc] 26 (0, 0))) ∧ (b 20 = true → w'.heap[g]? = some (.cells #[.int .i64 st, .int .i64 nn, .slice A2 x233002_1.length c2, .slice A3 x233003_2.length c3, .slice vAn (old ++ [(⟨yl, yr⟩ : S39)]).length vcn] 26 (0, 0))) ∧ (b 8 = true → (m8_ : Value) = .slice (some ⟨gE, 0, none⟩) 0 0) ∧ (b 15 = true → (m15_ : Value) = .slice Aa yr.length ca) ∧ (b 16 = true → (m16_ : Value) = .agg #[.int .i64 yl, .slice Aa yr.length ca]) ∧ (b 17 = true → (m17_ : Value) = .slice (some ⟨gL, 0, none⟩) 1 1) ∧ (b 18 = true → (m18_ : Value) = .slice vAn (old ++ [(⟨yl, yr⟩ : S39)]).length vcn)) HT_.out HW_.out (by kernel_rfl) (by kernel_rfl) ?_ ?_ ?_
                                · exact ⟨0, none, 0, 0, wl, none, 0, .bool false, .bool false, .bool false, .bool false, .bool false, by simp only [putSel, Bool.false_eq_true, if_false], fun _ => HBr.out, fun h_ => absurd h_ (by decide), fun h_ => absurd h_ (by decide), fun h_ => absurd h_ (by decide), fun h_ => absurd h_ (by decide), fun h_ => absurd h_ (by decide), fun h_ => absurd h_ (by decide), fun h_ => absurd h_ (by decide), fun h_ => absurd h_ (by decide), fun h_ => absurd h_ (by decide), fun h_ => absurd h_ (by decide), fun h_ => absurd h_ (by decide), fun h_ => absurd h_ (by decide), fun h_ => absurd h_ (by decide), fun h_ => absurd h_ (by decide)⟩
                                · skip
                                  clear HBr
                                  refine steps_cons ?_ ?_
                                  · rintro b a w' ⟨gE, Aa, ca, gL, W0, vAn, vcn, m8_, m15_, m16_, m17_, m18_, ha, Q_HBr, Q_E, Q_RA, Q_LIT, Q_RN, Q_HW, Q_R2, Q_R3, Q_X5, Q_Y5, Q_X8_, Q_X15_, Q_X16_, Q_X17_, Q_X18_⟩ hb_ hon hoff
                                    refine ⟨_, rfl, fun K hK => ?_⟩
                                    have e164 : a.tmps[164]? = some (.pointer (some ⟨g, 4, none⟩)) := by rw [ha]; exact (putSel_off rfl).trans rfl
                                    replace ha := Aside0.mk ha
                                    have HBr := Aside0.mk (Q_HBr (hoff 18 (by kernel_rfl)))
                                    have hz_ : w'.cell? ⟨g, 4, none⟩ = some (.slice vA old.length vc) := (blk_cell ((HBr.out.block g (blk_lt HBg.out)).trans HBg.out) 4).trans rfl
                                    refine value_ (w1 := w') (v := .slice vA old.length vc) (by rfl) rfl ?_ ?_
                                    · go_simp
                                      (try simp only [i64_w])
                                      try rfl
                                    refine hK.out _ _ ⟨gE, Aa, ca, gL, W0, vAn, vcn, m8_, m15_, m16_, m17_, m18_, (by rw [ha.out]; exact putSel_upk 0 hb_ rfl rfl rfl), Q_HBr, Q_E, Q_RA, Q_LIT, fun h0_ => absurd ((hoff 18 (by kernel_rfl)).symm.trans h0_) (by decide), fun h0_ => absurd ((hoff 18 (by kernel_rfl)).symm.trans h0_) (by decide), fun h0_ => absurd ((hoff 18 (by kernel_rfl)).symm.trans h0_) (by decide), fun h0_ => absurd ((hoff 18 (by kernel_rfl)).symm.trans h0_) (by decide), fun h0_ _ => absurd ((hoff 18 (by kernel_rfl)).symm.trans h0_) (by decide), fun h0_ => absurd ((hoff 20 (by kernel_rfl)).symm.trans h0_) (by decide), Q_X8_, Q_X15_, Q_X16_, Q_X17_, fun h0_ => absurd ((hoff 18 (by kernel_rfl)).symm.trans h0_) (by decide)⟩
                                  refine steps_cons ?_ ?_
                                  · rintro b a w' ⟨gE, Aa, ca, gL, W0, vAn, vcn, m8_, m15_, m16_, m17_, m18_, ha, Q_HBr, Q_E, Q_RA, Q_LIT, Q_RN, Q_HW, Q_R2, Q_R3, Q_X5, Q_Y5, Q_X8_, Q_X15_, Q_X16_, Q_X17_, Q_X18_⟩ hb_ hon hoff
                                    refine ⟨_, rfl, fun K hK => ?_⟩
                                    have e166 : a.tmps[166]? = some (.pointer (some ⟨gb232, 4, none⟩)) := by rw [ha]; exact (putSel_off rfl).trans rfl
                                    replace ha := Aside0.mk ha
                                    have HBr := Aside0.mk (Q_HBr (hoff 18 (by kernel_rfl)))
                                    have hz_ : w'.cell? ⟨gb232, 4, none⟩ = some (.slice (some ad) x233004_3.length c4) := (blk_cell ((HBr.out.block gb232 (blk_lt HB4l.out)).trans HB4l.out) 4).trans rfl
                                    refine value_ (w1 := w') (v := .slice (some ad) x233004_3.length c4) (by rfl) rfl ?_ ?_
                                    · go_simp
                                      (try simp only [i64_w])
                                      try rfl
                                    refine hK.out _ _ ⟨gE, Aa, ca, gL, W0, vAn, vcn, m8_, m15_, m16_, m17_, m18_, (by rw [ha.out]; exact putSel_upk 1 hb_ rfl rfl rfl), Q_HBr, Q_E, Q_RA, fun h0_ _ => absurd ((hoff 17 (by kernel_rfl)).symm.trans h0_) (by decide), fun h0_ => absurd ((hoff 18 (by kernel_rfl)).symm.trans h0_) (by decide), fun h0_ => absurd ((hoff 18 (by kernel_rfl)).symm.trans h0_) (by decide), fun h0_ => absurd ((hoff 18 (by kernel_rfl)).symm.trans h0_) (by decide), fun h0_ => absurd ((hoff 18 (by kernel_rfl)).symm.trans h0_) (by decide), fun h0_ _ => absurd ((hoff 18 (by kernel_rfl)).symm.trans h0_) (by decide), fun h0_ => absurd ((hoff 20 (by kernel_rfl)).symm.trans h0_) (by decide), Q_X8_, Q_X15_, fun h0_ => absurd ((hoff 16 (by kernel_rfl)).symm.trans h0_) (by decide), fun h0_ => absurd ((hoff 17 (by kernel_rfl)).symm.trans h0_) (by decide), fun h0_ => absurd ((hoff 18 (by kernel_rfl)).symm.trans h0_) (by decide)⟩
                                  refine steps_cons ?_ ?_
                                  · rintro b a w' ⟨gE, Aa, ca, gL, W0, vAn, vcn, m8_, m15_, m16_, m17_, m18_, ha, Q_HBr, Q_E, Q_RA, Q_LIT, Q_RN, Q_HW, Q_R2, Q_R3, Q_X5, Q_Y5, Q_X8_, Q_X15_, Q_X16_, Q_X17_, Q_X18_⟩ hb_ hon hoff
                                    refine ⟨_, rfl, fun K hK => ?_⟩
                                    have e167 : a.tmps[167]? = some (.slice (some ad) x233004_3.length c4) := by rw [ha]; exact putSel_on (e := (3, 167, .slice (some ad) x233004_3.length c4)) 1 rfl rfl (hon 3 (by kernel_rfl)) rfl
                                    have e168 : a.tmps[168]? = some (.int .i64 (i : Int)) := by rw [ha]; exact (putSel_off rfl).trans rfl
                                    replace ha := Aside0.mk ha
                                    have HBr := Aside0.mk (Q_HBr (hoff 18 (by kernel_rfl)))
                                    have n1_ : (0 : Int) ≤ (i : Int) := by omega
                                    have n2_ : (i : Int) < (x233004_3.length : Int) := by have := HLT.out; omega
                                    have n3_ : i < x233004_3.length := HLT.out
                                    refine value_ (w1 := w') (v := .pointer (some (ad.add (i * 2)))) (by rfl) rfl ?_ ?_
                                    · go_simp
                                      (try simp only [i64_w])
                                      try rfl
                                    refine hK.out _ _ ⟨gE, Aa, ca, gL, W0, vAn, vcn, m8_, m15_, m16_, m17_, m18_, (by rw [ha.out]; exact putSel_upk 2 hb_ rfl rfl rfl), Q_HBr, Q_E, Q_RA, fun h0_ _ => absurd ((hoff 17 (by kernel_rfl)).symm.trans h0_) (by decide), fun h0_ => absurd ((hoff 18 (by kernel_rfl)).symm.trans h0_) (by decide), fun h0_ => absurd ((hoff 18 (by kernel_rfl)).symm.trans h0_) (by decide), fun h0_ => absurd ((hoff 18 (by kernel_rfl)).symm.trans h0_) (by decide), fun h0_ => absurd ((hoff 18 (by kernel_rfl)).symm.trans h0_) (by decide), fun h0_ _ => absurd ((hoff 18 (by kernel_rfl)).symm.trans h0_) (by decide), fun h0_ => absurd ((hoff 20 (by kernel_rfl)).symm.trans h0_) (by decide), Q_X8_, Q_X15_, fun h0_ => absurd ((hoff 16 (by kernel_rfl)).symm.trans h0_) (by decide), fun h0_ => absurd ((hoff 17 (by kernel_rfl)).symm.trans h0_) (by decide), fun h0_ => absurd ((hoff 18 (by kernel_rfl)).symm.trans h0_) (by decide)⟩
                                  refine steps_cons ?_ ?_
                                  · rintro b a w' ⟨gE, Aa, ca, gL, W0, vAn, vcn, m8_, m15_, m16_, m17_, m18_, ha, Q_HBr, Q_E, Q_RA, Q_LIT, Q_RN, Q_HW, Q_R2, Q_R3, Q_X5, Q_Y5, Q_X8_, Q_X15_, Q_X16_, Q_X17_, Q_X18_⟩ hb_ hon hoff
                                    refine ⟨_, rfl, fun K hK => ?_⟩
                                    have e169 : a.tmps[169]? = some (.pointer (some (ad.add (i * 2)))) := by rw [ha]; exact putSel_on (e := (5, 169, .pointer (some (ad.add (i * 2))))) 2 rfl rfl (hon 5 (by kernel_rfl)) rfl
                                    replace ha := Aside0.mk ha
                                    have HBr := Aside0.mk (Q_HBr (hoff 18 (by kernel_rfl)))
                                    refine value_ (w1 := w') (v := .pointer (some (ad.add (i * 2)))) (by rfl) rfl ?_ ?_
                                    · go_simp
                                      (try simp only [i64_w])
                                      try rfl
                                    refine hK.out _ _ ⟨gE, Aa, ca, gL, W0, vAn, vcn, m8_, m15_, m16_, m17_, m18_, (by rw [ha.out]; exact putSel_upk 3 hb_ rfl rfl rfl), Q_HBr, Q_E, Q_RA, fun h0_ _ => absurd ((hoff 17 (by kernel_rfl)).symm.trans h0_) (by decide), fun h0_ => absurd ((hoff 18 (by kernel_rfl)).symm.trans h0_) (by decide), fun h0_ => absurd ((hoff 18 (by kernel_rfl)).symm.trans h0_) (by decide), fun h0_ => absurd ((hoff 18 (by kernel_rfl)).symm.trans h0_) (by decide), fun h0_ => absurd ((hoff 18 (by kernel_rfl)).symm.trans h0_) (by decide), fun h0_ _ => absurd ((hoff 18 (by kernel_rfl)).symm.trans h0_) (by decide), fun h0_ => absurd ((hoff 20 (by kernel_rfl)).symm.trans h0_) (by decide), Q_X8_, Q_X15_, fun h0_ => absurd ((hoff 16 (by kernel_rfl)).symm.trans h0_) (by decide), fun h0_ => absurd ((hoff 17 (by kernel_rfl)).symm.trans h0_) (by decide), fun h0_ => absurd ((hoff 18 (by kernel_rfl)).symm.trans h0_) (by decide)⟩
                                  refine steps_cons ?_ ?_
                                  · rintro b a w' ⟨gE, Aa, ca, gL, W0, vAn, vcn, m8_, m15_, m16_, m17_, m18_, ha, Q_HBr, Q_E, Q_RA, Q_LIT, Q_RN, Q_HW, Q_R2, Q_R3, Q_X5, Q_Y5, Q_X8_, Q_X15_, Q_X16_, Q_X17_, Q_X18_⟩ hb_ hon hoff
                                    refine ⟨_, rfl, fun K hK => ?_⟩
                                    have e170 : a.tmps[170]? = some (.pointer (some (ad.add (i * 2)))) := by rw [ha]; exact putSel_on (e := (6, 170, .pointer (some (ad.add (i * 2))))) 3 rfl rfl (hon 6 (by kernel_rfl)) rfl
                                    replace ha := Aside0.mk ha
                                    have HBr := Aside0.mk (Q_HBr (hoff 18 (by kernel_rfl)))
                                    have hz_ : w'.cell? (ad.add (i * 2)) = some (.int .i64 yl) := pw_cell_below HBr.out HX0.out
                                    refine value_ (w1 := w') (v := .int .i64 yl) (by rfl) rfl ?_ ?_
                                    · go_simp
                                      (try simp only [i64_w])
                                      try rfl
                                    refine hK.out _ _ ⟨gE, Aa, ca, gL, W0, vAn, vcn, m8_, m15_, m16_, m17_, m18_, (by rw [ha.out]; exact putSel_upk 4 hb_ rfl rfl rfl), Q_HBr, Q_E, Q_RA, fun h0_ _ => absurd ((hoff 17 (by kernel_rfl)).symm.trans h0_) (by decide), fun h0_ => absurd ((hoff 18 (by kernel_rfl)).symm.trans h0_) (by decide), fun h0_ => absurd ((hoff 18 (by kernel_rfl)).symm.trans h0_) (by decide), fun h0_ => absurd ((hoff 18 (by kernel_rfl)).symm.trans h0_) (by decide), fun h0_ => absurd ((hoff 18 (by kernel_rfl)).symm.trans h0_) (by decide), fun h0_ _ => absurd ((hoff 18 (by kernel_rfl)).symm.trans h0_) (by decide), fun h0_ => absurd ((hoff 20 (by kernel_rfl)).symm.trans h0_) (by decide), Q_X8_, Q_X15_, fun h0_ => absurd ((hoff 16 (by kernel_rfl)).symm.trans h0_) (by decide), fun h0_ => absurd ((hoff 17 (by kernel_rfl)).symm.trans h0_) (by decide), fun h0_ => absurd ((hoff 18 (by kernel_rfl)).symm.trans h0_) (by decide)⟩
                                  refine steps_cons ?_ ?_
                                  · rintro b a w' ⟨gE, Aa, ca, gL, W0, vAn, vcn, m8_, m15_, m16_, m17_, m18_, ha, Q_HBr, Q_E, Q_RA, Q_LIT, Q_RN, Q_HW, Q_R2, Q_R3, Q_X5, Q_Y5, Q_X8_, Q_X15_, Q_X16_, Q_X17_, Q_X18_⟩ hb_ hon hoff
                                    refine ⟨_, rfl, fun K hK => ?_⟩
                                    replace ha := Aside0.mk ha
                                    have HBr := Aside0.mk (Q_HBr (hoff 18 (by kernel_rfl)))
                                    refine empty_lit_step (enc := Value.int .i64) (h1 := fun _ => rfl) wl.heap.size 3 (by rfl) (N := 172) rfl ?hr HBr.out.size ?_
                                    (case hr => first | (go_simp; done) | (go_simp; rfl))
                                    intro gEn w1 hE_ hbw_
                                    refine hK.out _ _ ⟨gEn, Aa, ca, gL, W0, vAn, vcn, (.slice (some ⟨gEn, 0, none⟩) 0 0), m15_, m16_, m17_, m18_, (by rw [ha.out]; exact putSel_upk 5 hb_ rfl rfl rfl), fun _ => (below_step (w := wl) HBr.out hbw_), fun _ _ => hE_, fun h0_ _ => absurd ((hoff 15 (by kernel_rfl)).symm.trans h0_) (by decide), fun h0_ _ => absurd ((hoff 17 (by kernel_rfl)).symm.trans h0_) (by decide), fun h0_ => absurd ((hoff 18 (by kernel_rfl)).symm.trans h0_) (by decide), fun h0_ => absurd ((hoff 18 (by kernel_rfl)).symm.trans h0_) (by decide), fun h0_ => absurd ((hoff 18 (by kernel_rfl)).symm.trans h0_) (by decide), fun h0_ => absurd ((hoff 18 (by kernel_rfl)).symm.trans h0_) (by decide), fun h0_ _ => absurd ((hoff 18 (by kernel_rfl)).symm.trans h0_) (by decide), fun h0_ => absurd ((hoff 20 (by kernel_rfl)).symm.trans h0_) (by decide), fun _ => rfl, fun h0_ => absurd ((hoff 15 (by kernel_rfl)).symm.trans h0_) (by decide), fun h0_ => absurd ((hoff 16 (by kernel_rfl)).symm.trans h0_) (by decide), fun h0_ => absurd ((hoff 17 (by kernel_rfl)).symm.trans h0_) (by decide), fun h0_ => absurd ((hoff 18 (by kernel_rfl)).symm.trans h0_) (by decide)⟩
                                  refine steps_cons ?_ ?_
                                  · rintro b a w' ⟨gE, Aa, ca, gL, W0, vAn, vcn, m8_, m15_, m16_, m17_, m18_, ha, Q_HBr, Q_E, Q_RA, Q_LIT, Q_RN, Q_HW, Q_R2, Q_R3, Q_X5, Q_Y5, Q_X8_, Q_X15_, Q_X16_, Q_X17_, Q_X18_⟩ hb_ hon hoff
                                    refine ⟨_, rfl, fun K hK => ?_⟩
                                    have e173 : a.tmps[173]? = some (.pointer (some ⟨gb232, 4, none⟩)) := by rw [ha]; exact (putSel_off rfl).trans rfl
                                    replace ha := Aside0.mk ha
                                    have HBr := Aside0.mk (Q_HBr (hoff 18 (by kernel_rfl)))
                                    have hz_ : w'.cell? ⟨gb232, 4, none⟩ = some (.slice (some ad) x233004_3.length c4) := (blk_cell ((HBr.out.block gb232 (blk_lt HB4l.out)).trans HB4l.out) 4).trans rfl
                                    refine value_ (w1 := w') (v := .slice (some ad) x233004_3.length c4) (by rfl) rfl ?_ ?_
                                    · go_simp
                                      (try simp only [i64_w])
                                      try rfl
                                    refine hK.out _ _ ⟨gE, Aa, ca, gL, W0, vAn, vcn, m8_, m15_, m16_, m17_, m18_, (by rw [ha.out]; exact putSel_upk 6 hb_ rfl rfl rfl), Q_HBr, Q_E, fun h0_ _ => absurd ((hoff 15 (by kernel_rfl)).symm.trans h0_) (by decide), fun h0_ _ => absurd ((hoff 17 (by kernel_rfl)).symm.trans h0_) (by decide), fun h0_ => absurd ((hoff 18 (by kernel_rfl)).symm.trans h0_) (by decide), fun h0_ => absurd ((hoff 18 (by kernel_rfl)).symm.trans h0_) (by decide), fun h0_ => absurd ((hoff 18 (by kernel_rfl)).symm.trans h0_) (by decide), fun h0_ => absurd ((hoff 18 (by kernel_rfl)).symm.trans h0_) (by decide), fun h0_ _ => absurd ((hoff 18 (by kernel_rfl)).symm.trans h0_) (by decide), fun h0_ => absurd ((hoff 20 (by kernel_rfl)).symm.trans h0_) (by decide), Q_X8_, fun h0_ => absurd ((hoff 15 (by kernel_rfl)).symm.trans h0_) (by decide), fun h0_ => absurd ((hoff 16 (by kernel_rfl)).symm.trans h0_) (by decide), fun h0_ => absurd ((hoff 17 (by kernel_rfl)).symm.trans h0_) (by decide), fun h0_ => absurd ((hoff 18 (by kernel_rfl)).symm.trans h0_) (by decide)⟩
                                  refine steps_cons ?_ ?_
                                  · rintro b a w' ⟨gE, Aa, ca, gL, W0, vAn, vcn, m8_, m15_, m16_, m17_, m18_, ha, Q_HBr, Q_E, Q_RA, Q_LIT, Q_RN, Q_HW, Q_R2, Q_R3, Q_X5, Q_Y5, Q_X8_, Q_X15_, Q_X16_, Q_X17_, Q_X18_⟩ hb_ hon hoff
                                    refine ⟨_, rfl, fun K hK => ?_⟩
                                    have e174 : a.tmps[174]? = some (.slice (some ad) x233004_3.length c4) := by rw [ha]; exact putSel_on (e := (10, 174, .slice (some ad) x233004_3.length c4)) 6 rfl rfl (hon 10 (by kernel_rfl)) rfl
                                    have e175 : a.tmps[175]? = some (.int .i64 (i : Int)) := by rw [ha]; exact (putSel_off rfl).trans rfl
                                    replace ha := Aside0.mk ha
                                    have HBr := Aside0.mk (Q_HBr (hoff 18 (by kernel_rfl)))
                                    have n1_ : (0 : Int) ≤ (i : Int) := by omega
                                    have n2_ : (i : Int) < (x233004_3.length : Int) := by have := HLT.out; omega
                                    have n3_ : i < x233004_3.length := HLT.out
                                    refine value_ (w1 := w') (v := .pointer (some (ad.add (i * 2)))) (by rfl) rfl ?_ ?_
                                    · go_simp
                                      (try simp only [i64_w])
                                      try rfl
                                    refine hK.out _ _ ⟨gE, Aa, ca, gL, W0, vAn, vcn, m8_, m15_, m16_, m17_, m18_, (by rw [ha.out]; exact putSel_upk 7 hb_ rfl rfl rfl), Q_HBr, Q_E, fun h0_ _ => absurd ((hoff 15 (by kernel_rfl)).symm.trans h0_) (by decide), fun h0_ _ => absurd ((hoff 17 (by kernel_rfl)).symm.trans h0_) (by decide), fun h0_ => absurd ((hoff 18 (by kernel_rfl)).symm.trans h0_) (by decide), fun h0_ => absurd ((hoff 18 (by kernel_rfl)).symm.trans h0_) (by decide), fun h0_ => absurd ((hoff 18 (by kernel_rfl)).symm.trans h0_) (by decide), fun h0_ => absurd ((hoff 18 (by kernel_rfl)).symm.trans h0_) (by decide), fun h0_ _ => absurd ((hoff 18 (by kernel_rfl)).symm.trans h0_) (by decide), fun h0_ => absurd ((hoff 20 (by kernel_rfl)).symm.trans h0_) (by decide), Q_X8_, fun h0_ => absurd ((hoff 15 (by kernel_rfl)).symm.trans h0_) (by decide), fun h0_ => absurd ((hoff 16 (by kernel_rfl)).symm.trans h0_) (by decide), fun h0_ => absurd ((hoff 17 (by kernel_rfl)).symm.trans h0_) (by decide), fun h0_ => absurd ((hoff 18 (by kernel_rfl)).symm.trans h0_) (by decide)⟩
                                  refine steps_cons ?_ ?_
                                  · rintro b a w' ⟨gE, Aa, ca, gL, W0, vAn, vcn, m8_, m15_, m16_, m17_, m18_, ha, Q_HBr, Q_E, Q_RA, Q_LIT, Q_RN, Q_HW, Q_R2, Q_R3, Q_X5, Q_Y5, Q_X8_, Q_X15_, Q_X16_, Q_X17_, Q_X18_⟩ hb_ hon hoff
                                    refine ⟨_, rfl, fun K hK => ?_⟩
                                    have e176 : a.tmps[176]? = some (.pointer (some (ad.add (i * 2)))) := by rw [ha]; exact putSel_on (e := (12, 176, .pointer (some (ad.add (i * 2))))) 7 rfl rfl (hon 12 (by kernel_rfl)) rfl
                                    replace ha := Aside0.mk ha
                                    have HBr := Aside0.mk (Q_HBr (hoff 18 (by kernel_rfl)))
                                    refine value_ (w1 := w') (v := .pointer (some ⟨(ad.add (i * 2)).block, (ad.add (i * 2)).off + 1, none⟩)) (by rfl) rfl ?_ ?_
                                    · go_simp
                                      (try simp only [i64_w])
                                      try rfl
                                    refine hK.out _ _ ⟨gE, Aa, ca, gL, W0, vAn, vcn, m8_, m15_, m16_, m17_, m18_, (by rw [ha.out]; exact putSel_upk 8 hb_ rfl rfl rfl), Q_HBr, Q_E, fun h0_ _ => absurd ((hoff 15 (by kernel_rfl)).symm.trans h0_) (by decide), fun h0_ _ => absurd ((hoff 17 (by kernel_rfl)).symm.trans h0_) (by decide), fun h0_ => absurd ((hoff 18 (by kernel_rfl)).symm.trans h0_) (by decide), fun h0_ => absurd ((hoff 18 (by kernel_rfl)).symm.trans h0_) (by decide), fun h0_ => absurd ((hoff 18 (by kernel_rfl)).symm.trans h0_) (by decide), fun h0_ => absurd ((hoff 18 (by kernel_rfl)).symm.trans h0_) (by decide), fun h0_ _ => absurd ((hoff 18 (by kernel_rfl)).symm.trans h0_) (by decide), fun h0_ => absurd ((hoff 20 (by kernel_rfl)).symm.trans h0_) (by decide), Q_X8_, fun h0_ => absurd ((hoff 15 (by kernel_rfl)).symm.trans h0_) (by decide), fun h0_ => absurd ((hoff 16 (by kernel_rfl)).symm.trans h0_) (by decide), fun h0_ => absurd ((hoff 17 (by kernel_rfl)).symm.trans h0_) (by decide), fun h0_ => absurd ((hoff 18 (by kernel_rfl)).symm.trans h0_) (by decide)⟩
                                  refine steps_cons ?_ ?_
                                  · rintro b a w' ⟨gE, Aa, ca, gL, W0, vAn, vcn, m8_, m15_, m16_, m17_, m18_, ha, Q_HBr, Q_E, Q_RA, Q_LIT, Q_RN, Q_HW, Q_R2, Q_R3, Q_X5, Q_Y5, Q_X8_, Q_X15_, Q_X16_, Q_X17_, Q_X18_⟩ hb_ hon hoff
                                    refine ⟨_, rfl, fun K hK => ?_⟩
                                    have e177 : a.tmps[177]? = some (.pointer (some ⟨(ad.add (i * 2)).block, (ad.add (i * 2)).off + 1, none⟩)) := by rw [ha]; exact putSel_on (e := (13, 177, .pointer (some ⟨(ad.add (i * 2)).block, (ad.add (i * 2)).off + 1, none⟩))) 8 rfl rfl (hon 13 (by kernel_rfl)) rfl
                                    replace ha := Aside0.mk ha
                                    have HBr := Aside0.mk (Q_HBr (hoff 18 (by kernel_rfl)))
                                    have hz_ : w'.cell? ⟨(ad.add (i * 2)).block, (ad.add (i * 2)).off + 1, none⟩ = some (.slice A1 yr.length c1) := pw_cell_below HBr.out HX1.out
                                    refine value_ (w1 := w') (v := .slice A1 yr.length c1) (by rfl) rfl ?_ ?_
                                    · go_simp
                                      (try simp only [i64_w])
                                      try rfl
                                    refine hK.out _ _ ⟨gE, Aa, ca, gL, W0, vAn, vcn, m8_, m15_, m16_, m17_, m18_, (by rw [ha.out]; exact putSel_upk 9 hb_ rfl rfl rfl), Q_HBr, Q_E, fun h0_ _ => absurd ((hoff 15 (by kernel_rfl)).symm.trans h0_) (by decide), fun h0_ _ => absurd ((hoff 17 (by kernel_rfl)).symm.trans h0_) (by decide), fun h0_ => absurd ((hoff 18 (by kernel_rfl)).symm.trans h0_) (by decide), fun h0_ => absurd ((hoff 18 (by kernel_rfl)).symm.trans h0_) (by decide), fun h0_ => absurd ((hoff 18 (by kernel_rfl)).symm.trans h0_) (by decide), fun h0_ => absurd ((hoff 18 (by kernel_rfl)).symm.trans h0_) (by decide), fun h0_ _ => absurd ((hoff 18 (by kernel_rfl)).symm.trans h0_) (by decide), fun h0_ => absurd ((hoff 20 (by kernel_rfl)).symm.trans h0_) (by decide), Q_X8_, fun h0_ => absurd ((hoff 15 (by kernel_rfl)).symm.trans h0_) (by decide), fun h0_ => absurd ((hoff 16 (by kernel_rfl)).symm.trans h0_) (by decide), fun h0_ => absurd ((hoff 17 (by kernel_rfl)).symm.trans h0_) (by decide), fun h0_ => absurd ((hoff 18 (by kernel_rfl)).symm.trans h0_) (by decide)⟩
                                  refine steps_cons ?_ ?_
                                  · rintro b a w' ⟨gE, Aa, ca, gL, W0, vAn, vcn, m8_, m15_, m16_, m17_, m18_, ha, Q_HBr, Q_E, Q_RA, Q_LIT, Q_RN, Q_HW, Q_R2, Q_R3, Q_X5, Q_Y5, Q_X8_, Q_X15_, Q_X16_, Q_X17_, Q_X18_⟩ hb_ hon hoff
                                    refine ⟨_, rfl, fun K hK => ?_⟩
                                    have e172 : a.tmps[172]? = some (m8_) := by rw [ha]; exact putSel_on (e := (8, 172, m8_)) 5 rfl rfl (hon 8 (by kernel_rfl)) rfl
                                    rw [Q_X8_ (hon 8 (by kernel_rfl))] at e172
                                    have e178 : a.tmps[178]? = some (.slice A1 yr.length c1) := by rw [ha]; exact putSel_on (e := (14, 178, .slice A1 yr.length c1)) 9 rfl rfl (hon 14 (by kernel_rfl)) rfl
                                    replace ha := Aside0.mk ha
                                    have HBr := Aside0.mk (Q_HBr (hoff 18 (by kernel_rfl)))
                                    have E := Aside0.mk (Q_E (hon 8 (by kernel_rfl)) hb_)
                                    refine append_fresh_step (enc := Value.int .i64) (h1 := fun _ => rfl) wl.heap.size (by rfl) (.tmp 172) (.tmp 178) 34 3 (.int .i64 0) 8 rfl Try.underlying34 info3 rfl gE yr A1 _ c1 (by first | (simp only [List.map_toArray, List.map_cons, List.map_nil, Act.eval, Array.getD_eq_getD_getElem?, Option.getD_some, e172, e178]; done) | (simp only [List.map_toArray, List.map_cons, List.map_nil, Act.eval, Array.getD_eq_getD_getElem?, Option.getD_some, e172, e178]; rfl)) (by first | (simp only [List.map_toArray, List.map_cons, List.map_nil, Act.eval, Array.getD_eq_getD_getElem?, Option.getD_some, e172, e178]; done) | (simp only [List.map_toArray, List.map_cons, List.map_nil, Act.eval, Array.getD_eq_getD_getElem?, Option.getD_some, e172, e178]; rfl)) E.out (Kd.C_below HXC.out HBr.out) HBr.out.size (by decide) HLR.out ?_
                                    intro v_ w1 hR_ hbw_
                                    obtain ⟨Aan, can, e_⟩ := Kd.R_slice hR_
                                    subst e_
                                    refine hK.out _ _ ⟨gE, Aan, can, gL, W0, vAn, vcn, m8_, (.slice Aan yr.length can), m16_, m17_, m18_, (by rw [ha.out]; exact putSel_upk 10 hb_ rfl rfl rfl), fun _ => (below_step (w := wl) HBr.out hbw_), fun _ h1_ => absurd ((up_self b 15).symm.trans h1_) (by decide), fun _ _ => hR_, fun h0_ _ => absurd ((hoff 17 (by kernel_rfl)).symm.trans h0_) (by decide), fun h0_ => absurd ((hoff 18 (by kernel_rfl)).symm.trans h0_) (by decide), fun h0_ => absurd ((hoff 18 (by kernel_rfl)).symm.trans h0_) (by decide), fun h0_ => absurd ((hoff 18 (by kernel_rfl)).symm.trans h0_) (by decide), fun h0_ => absurd ((hoff 18 (by kernel_rfl)).symm.trans h0_) (by decide), fun h0_ _ => absurd ((hoff 18 (by kernel_rfl)).symm.trans h0_) (by decide), fun h0_ => absurd ((hoff 20 (by kernel_rfl)).symm.trans h0_) (by decide), Q_X8_, fun _ => rfl, fun h0_ => absurd ((hoff 16 (by kernel_rfl)).symm.trans h0_) (by decide), fun h0_ => absurd ((hoff 17 (by kernel_rfl)).symm.trans h0_) (by decide), fun h0_ => absurd ((hoff 18 (by kernel_rfl)).symm.trans h0_) (by decide)⟩
                                  refine steps_cons ?_ ?_
                                  · rintro b a w' ⟨gE, Aa, ca, gL, W0, vAn, vcn, m8_, m15_, m16_, m17_, m18_, ha, Q_HBr, Q_E, Q_RA, Q_LIT, Q_RN, Q_HW, Q_R2, Q_R3, Q_X5, Q_Y5, Q_X8_, Q_X15_, Q_X16_, Q_X17_, Q_X18_⟩ hb_ hon hoff
                                    refine ⟨_, rfl, fun K hK => ?_⟩
                                    have e171 : a.tmps[171]? = some (.int .i64 yl) := by rw [ha]; exact putSel_on (e := (7, 171, .int .i64 yl)) 4 rfl rfl (hon 7 (by kernel_rfl)) rfl
                                    have e179 : a.tmps[179]? = some (m15_) := by rw [ha]; exact putSel_on (e := (15, 179, m15_)) 10 rfl rfl (hon 15 (by kernel_rfl)) rfl
                                    rw [Q_X15_ (hon 15 (by kernel_rfl))] at e179
                                    replace ha := Aside0.mk ha
                                    have HBr := Aside0.mk (Q_HBr (hoff 18 (by kernel_rfl)))
                                    have RA := Aside0.mk (Q_RA (hon 15 (by kernel_rfl)) (hoff 17 (by kernel_rfl)))
                                    refine value_ (w1 := w') (v := .agg #[.int .i64 yl, .slice Aa yr.length ca]) (by rfl) rfl ?_ ?_
                                    · go_simp
                                      (try simp only [i64_w])
                                      try rfl
                                    refine hK.out _ _ ⟨gE, Aa, ca, gL, W0, vAn, vcn, m8_, m15_, (.agg #[.int .i64 yl, .slice Aa yr.length ca]), m17_, m18_, (by rw [ha.out]; exact putSel_upk 11 hb_ rfl rfl rfl), Q_HBr, fun _ h1_ => absurd ((hon 15 (by kernel_rfl)).symm.trans h1_) (by decide), Q_RA, fun h0_ _ => absurd ((hoff 17 (by kernel_rfl)).symm.trans h0_) (by decide), fun h0_ => absurd ((hoff 18 (by kernel_rfl)).symm.trans h0_) (by decide), fun h0_ => absurd ((hoff 18 (by kernel_rfl)).symm.trans h0_) (by decide), fun h0_ => absurd ((hoff 18 (by kernel_rfl)).symm.trans h0_) (by decide), fun h0_ => absurd ((hoff 18 (by kernel_rfl)).symm.trans h0_) (by decide), fun h0_ _ => absurd ((hoff 18 (by kernel_rfl)).symm.trans h0_) (by decide), fun h0_ => absurd ((hoff 20 (by kernel_rfl)).symm.trans h0_) (by decide), Q_X8_, Q_X15_, fun _ => rfl, fun h0_ => absurd ((hoff 17 (by kernel_rfl)).symm.trans h0_) (by decide), fun h0_ => absurd ((hoff 18 (by kernel_rfl)).symm.trans h0_) (by decide)⟩
                                  refine steps_cons ?_ ?_
                                  · rintro b a w' ⟨gE, Aa, ca, gL, W0, vAn, vcn, m8_, m15_, m16_, m17_, m18_, ha, Q_HBr, Q_E, Q_RA, Q_LIT, Q_RN, Q_HW, Q_R2, Q_R3, Q_X5, Q_Y5, Q_X8_, Q_X15_, Q_X16_, Q_X17_, Q_X18_⟩ hb_ hon hoff
                                    refine ⟨_, rfl, fun K hK => ?_⟩
                                    have e180 : a.tmps[180]? = some (m16_) := by rw [ha]; exact putSel_on (e := (16, 180, m16_)) 11 rfl rfl (hon 16 (by kernel_rfl)) rfl
                                    rw [Q_X16_ (hon 16 (by kernel_rfl))] at e180
                                    replace ha := Aside0.mk ha
                                    have HBr := Aside0.mk (Q_HBr (hoff 18 (by kernel_rfl)))
                                    have RA := Aside0.mk (Q_RA (hon 15 (by kernel_rfl)) hb_)
                                    refine value_ (w1 := w'.alloc (.cells #[.int .i64 yl, .slice Aa yr.length ca] 39)) (v := .slice (some ⟨w'.heap.size, 0, none⟩) 1 1) (by rfl) rfl ?_ ?_
                                    · first | (go_simp; done) | (go_simp; rfl)
                                    refine hK.out _ _ ⟨gE, Aa, ca, w'.heap.size, w', vAn, vcn, m8_, m15_, m16_, (.slice (some ⟨w'.heap.size, 0, none⟩) 1 1), m18_, (by rw [ha.out]; exact putSel_upk 12 hb_ rfl rfl rfl), fun _ => (below_alloc HBr.out _), fun _ h1_ => absurd ((hon 15 (by kernel_rfl)).symm.trans h1_) (by decide), fun _ h1_ => absurd ((up_self b 17).symm.trans h1_) (by decide), fun _ _ => ⟨rfl, rfl, HBr.out, RA.out⟩, fun h0_ => absurd ((hoff 18 (by kernel_rfl)).symm.trans h0_) (by decide), fun h0_ => absurd ((hoff 18 (by kernel_rfl)).symm.trans h0_) (by decide), fun h0_ => absurd ((hoff 18 (by kernel_rfl)).symm.trans h0_) (by decide), fun h0_ => absurd ((hoff 18 (by kernel_rfl)).symm.trans h0_) (by decide), fun h0_ _ => absurd ((hoff 18 (by kernel_rfl)).symm.trans h0_) (by decide), fun h0_ => absurd ((hoff 20 (by kernel_rfl)).symm.trans h0_) (by decide), Q_X8_, Q_X15_, Q_X16_, fun _ => rfl, fun h0_ => absurd ((hoff 18 (by kernel_rfl)).symm.trans h0_) (by decide)⟩
                                  refine steps_cons ?_ ?_
                                  · rintro b a w' ⟨gE, Aa, ca, gL, W0, vAn, vcn, m8_, m15_, m16_, m17_, m18_, ha, Q_HBr, Q_E, Q_RA, Q_LIT, Q_RN, Q_HW, Q_R2, Q_R3, Q_X5, Q_Y5, Q_X8_, Q_X15_, Q_X16_, Q_X17_, Q_X18_⟩ hb_ hon hoff
                                    refine ⟨_, rfl, fun K hK => ?_⟩
                                    have e165 : a.tmps[165]? = some (.slice vA old.length vc) := by rw [ha]; exact putSel_on (e := (1, 165, .slice vA old.length vc)) 0 rfl rfl (hon 1 (by kernel_rfl)) rfl
                                    have e181 : a.tmps[181]? = some (m17_) := by rw [ha]; exact putSel_on (e := (17, 181, m17_)) 12 rfl rfl (hon 17 (by kernel_rfl)) rfl
                                    rw [Q_X17_ (hon 17 (by kernel_rfl))] at e181
                                    replace ha := Aside0.mk ha
                                    have HBr := Aside0.mk (Q_HBr hb_)
                                    have LIT := Aside0.mk (Q_LIT (hon 17 (by kernel_rfl)) hb_)
                                    obtain ⟨eW_, eg_, hBW_, hRW_⟩ := LIT.out
                                    rw [eg_] at e181
                                    clear HBr LIT Q_LIT Q_HBr eg_
                                    subst eW_
                                    have hK4_ := Kd.R_below HR4.out hBW_
                                    have hBq_ := below_then HBl.out HBl.out.size hBW_
                                    refine Kd.R_append_step k39 (w0 := wq) wq.heap.size (by rfl) (.tmp 165) (.tmp 181) 24 39 (.agg #[(.int .i64 0), (.slice none 0 0)]) 32 rfl Try.underlying24 info39 rfl (by decide) (by omega) (.slice vA old.length vc) old ⟨yl, yr⟩ [.int .i64 yl, .slice Aa yr.length ca] (fun _ => True) (fun q_ => wl.heap.size ≤ q_) (by first | (simp only [List.map_toArray, List.map_cons, List.map_nil, Act.eval, Array.getD_eq_getD_getElem?, Option.getD_some, e165, e181]; done) | (simp only [List.map_toArray, List.map_cons, List.map_nil, Act.eval, Array.getD_eq_getD_getElem?, Option.getD_some, e165, e181]; rfl)) (by first | (simp only [List.map_toArray, List.map_cons, List.map_nil, Act.eval, Array.getD_eq_getD_getElem?, Option.getD_some, e165, e181]; done) | (simp only [List.map_toArray, List.map_cons, List.map_nil, Act.eval, Array.getD_eq_getD_getElem?, Option.getD_some, e165, e181]; rfl)) (k39_mkM _ _ _ _ (Kd.R_lower (Kd.R_mono (Kd.R_bound hRW_) (fun q_ hq_ => hq_.2.1)) HBl.out.size)) HOK.out (fun _ _ => trivial) hK4_ hBq_ hBq_.size HLL.out ?_
                                    intro v_ w1 hS_ hbw_ hg_ hn_
                                    obtain ⟨vAnn, vcnn, e_⟩ := Kd.R_slice hS_
                                    subst e_
                                    have hX_ := blk_grown (blk_below_ HBg.out hBW_) hg_ (Kd.R_ne hK4_ (blk_below_ HBg.out hBW_) (by decide))
                                    refine hK.out _ _ ⟨gE, Aa, ca, gL, W0, vAnn, vcnn, m8_, m15_, m16_, m17_, (.slice vAnn (old ++ [(⟨yl, yr⟩ : S39)]).length vcnn), (by rw [ha.out]; exact putSel_upk 13 hb_ rfl rfl rfl), fun h0_ => absurd ((up_self b 18).symm.trans h0_) (by decide), fun _ h1_ => absurd ((hon 15 (by kernel_rfl)).symm.trans h1_) (by decide), fun _ h1_ => absurd ((hon 17 (by kernel_rfl)).symm.trans h1_) (by decide), fun _ h1_ => absurd ((up_self b 18).symm.trans h1_) (by decide), fun _ => hS_, fun _ => hbw_, fun _ => (Kd.R_over' (Kd.R_below HR2.out hBW_) (Kd.R_typed hK4_) (by decide) hg_), fun _ => (Kd.R_over' (Kd.R_below HR3.out hBW_) (Kd.R_typed hK4_) (by decide) hg_), fun _ _ => hX_, fun h0_ => absurd ((hoff 20 (by kernel_rfl)).symm.trans h0_) (by decide), Q_X8_, Q_X15_, Q_X16_, Q_X17_, fun _ => rfl⟩
                                  refine steps_cons ?_ ?_
                                  · rintro b a w' ⟨gE, Aa, ca, gL, W0, vAn, vcn, m8_, m15_, m16_, m17_, m18_, ha, Q_HBr, Q_E, Q_RA, Q_LIT, Q_RN, Q_HW, Q_R2, Q_R3, Q_X5, Q_Y5, Q_X8_, Q_X15_, Q_X16_, Q_X17_, Q_X18_⟩ hb_ hon hoff
                                    refine ⟨_, rfl, fun K hK => ?_⟩
                                    have e13 : a.tmps[13]? = some (.pointer (some ⟨g, 0, none⟩)) := by rw [ha]; exact (putSel_off rfl).trans rfl
                                    replace ha := Aside0.mk ha
                                    have RN := Aside0.mk (Q_RN (hon 18 (by kernel_rfl)))
                                    have HW := Aside0.mk (Q_HW (hon 18 (by kernel_rfl)))
                                    have R2 := Aside0.mk (Q_R2 (hon 18 (by kernel_rfl)))
                                    have R3 := Aside0.mk (Q_R3 (hon 18 (by kernel_rfl)))
                                    have X5 := Aside0.mk (Q_X5 (hon 18 (by kernel_rfl)) (hoff 20 (by kernel_rfl)))
                                    refine value_ (w1 := w') (v := .pointer (some ⟨g, 4, none⟩)) (by rfl) rfl ?_ ?_
                                    · go_simp
                                      (try simp only [i64_w])
                                      try rfl
                                    refine hK.out _ _ ⟨gE, Aa, ca, gL, W0, vAn, vcn, m8_, m15_, m16_, m17_, m18_, (by rw [ha.out]; exact putSel_upk 14 hb_ rfl rfl rfl), fun h0_ => absurd ((hon 18 (by kernel_rfl)).symm.trans h0_) (by decide), fun _ h1_ => absurd ((hon 15 (by kernel_rfl)).symm.trans h1_) (by decide), fun _ h1_ => absurd ((hon 17 (by kernel_rfl)).symm.trans h1_) (by decide), fun _ h1_ => absurd ((hon 18 (by kernel_rfl)).symm.trans h1_) (by decide), Q_RN, Q_HW, Q_R2, Q_R3, Q_X5, fun h0_ => absurd ((hoff 20 (by kernel_rfl)).symm.trans h0_) (by decide), Q_X8_, Q_X15_, Q_X16_, Q_X17_, Q_X18_⟩
                                  refine steps_cons ?_ ?_
                                  · rintro b a w' ⟨gE, Aa, ca, gL, W0, vAn, vcn, m8_, m15_, m16_, m17_, m18_, ha, Q_HBr, Q_E, Q_RA, Q_LIT, Q_RN, Q_HW, Q_R2, Q_R3, Q_X5, Q_Y5, Q_X8_, Q_X15_, Q_X16_, Q_X17_, Q_X18_⟩ hb_ hon hoff
                                    refine ⟨_, rfl, fun K hK => ?_⟩
                                    have e183 : a.tmps[183]? = some (.pointer (some ⟨g, 4, none⟩)) := by rw [ha]; exact putSel_on (e := (19, 183, .pointer (some ⟨g, 4, none⟩))) 14 rfl rfl (hon 19 (by kernel_rfl)) rfl
                                    have e182 : a.tmps[182]? = some (m18_) := by rw [ha]; exact putSel_on (e := (18, 182, m18_)) 13 rfl rfl (hon 18 (by kernel_rfl)) rfl
                                    rw [Q_X18_ (hon 18 (by kernel_rfl))] at e182
                                    replace ha := Aside0.mk ha
                                    have RN := Aside0.mk (Q_RN (hon 18 (by kernel_rfl)))
                                    have HW := Aside0.mk (Q_HW (hon 18 (by kernel_rfl)))
                                    have R2 := Aside0.mk (Q_R2 (hon 18 (by kernel_rfl)))
                                    have R3 := Aside0.mk (Q_R3 (hon 18 (by kernel_rfl)))
                                    have X5 := Aside0.mk (Q_X5 (hon 18 (by kernel_rfl)) hb_)
                                    obtain ⟨⟨xa0, xa1, xa2, xa3, xa4⟩, xb0, xb1, xb2, xb3, xb4⟩ := facts5 X5.out
                                    refine skip_ (w1 := w'.setCell ⟨g, 4, none⟩ (.slice vAn (old ++ [(⟨yl, yr⟩ : S39)]).length vcn)) (by rfl) rfl ?_ ?_
                                    · go_simp
                                    refine hK.out _ _ ⟨gE, Aa, ca, gL, W0, vAn, vcn, m8_, m15_, m16_, m17_, m18_, (by rw [ha.out]; exact putSel_none (v := undef) rfl), fun h0_ => absurd ((hon 18 (by kernel_rfl)).symm.trans h0_) (by decide), fun _ h1_ => absurd ((hon 15 (by kernel_rfl)).symm.trans h1_) (by decide), fun _ h1_ => absurd ((hon 17 (by kernel_rfl)).symm.trans h1_) (by decide), fun _ h1_ => absurd ((hon 18 (by kernel_rfl)).symm.trans h1_) (by decide), fun _ => (Kd.R_set RN.out X5.out (by decide) 4 _), fun _ => (below_set_ HW.out HGG.out _), fun _ => (Kd.R_set R2.out X5.out (by decide) 4 _), fun _ => (Kd.R_set R3.out X5.out (by decide) 4 _), fun _ h1_ => absurd ((up_self b 20).symm.trans h1_) (by decide), fun _ => (by simpa using blk_set X5.out 4 (.slice vAn (old ++ [(⟨yl, yr⟩ : S39)]).length vcn)), Q_X8_, Q_X15_, Q_X16_, Q_X17_, Q_X18_⟩
                                  exact steps_nil
                                · rintro b a w' hall ⟨gE, Aa, ca, gL, W0, vAn, vcn, m8_, m15_, m16_, m17_, m18_, ha, Q_HBr, Q_E, Q_RA, Q_LIT, Q_RN, Q_HW, Q_R2, Q_R3, Q_X5, Q_Y5, Q_X8_, Q_X15_, Q_X16_, Q_X17_, Q_X18_⟩
                                  clear HBr
                                  have hb1_ := hall 1 (by kernel_rfl)
                                  have hb3_ := hall 3 (by kernel_rfl)
                                  have hb5_ := hall 5 (by kernel_rfl)
                                  have hb6_ := hall 6 (by kernel_rfl)
                                  have hb7_ := hall 7 (by kernel_rfl)
                                  have hb8_ := hall 8 (by kernel_rfl)
                                  have hb10_ := hall 10 (by kernel_rfl)
                                  have hb12_ := hall 12 (by kernel_rfl)
                                  have hb13_ := hall 13 (by kernel_rfl)
                                  have hb14_ := hall 14 (by kernel_rfl)
                                  have hb15_ := hall 15 (by kernel_rfl)
                                  have hb16_ := hall 16 (by kernel_rfl)
                                  have hb17_ := hall 17 (by kernel_rfl)
                                  have hb18_ := hall 18 (by kernel_rfl)
                                  have hb19_ := hall 19 (by kernel_rfl)
                                  have hb20_ := hall 20 (by kernel_rfl)
                                  subst ha
                                  obtain rfl := Q_X8_ hb8_
                                  obtain rfl := Q_X15_ hb15_
                                  obtain rfl := Q_X16_ hb16_
                                  obtain rfl := Q_X17_ hb17_
                                  obtain rfl := Q_X18_ hb18_
                                  simp only [putSel, hb1_, hb3_, hb5_, hb6_, hb7_, hb8_, hb10_, hb12_, hb13_, hb14_, hb15_, hb16_, hb17_, hb18_, hb19_, hb20_, if_true, Act.put, List.setIfInBounds_toArray, List.set_cons_zero, List.set_cons_succ]
                                  clear Q_HBr
                                  clear Q_E
                                  clear Q_RA
                                  clear Q_LIT
                                  have RN := Aside0.mk (Q_RN hb18_)
                                  clear Q_RN
                                  have HW := Aside0.mk (Q_HW hb18_)
                                  clear Q_HW
                                  have R2 := Aside0.mk (Q_R2 hb18_)
                                  clear Q_R2
                                  have R3 := Aside0.mk (Q_R3 hb18_)
                                  clear Q_R3
                                  clear Q_X5
                                  have Y5 := Aside0.mk (Q_Y5 hb20_)
                                  clear Q_Y5
                                  clear hall hb1_ hb3_ hb5_ hb6_ hb7_ hb8_ hb10_ hb12_ hb13_ hb14_ hb15_ hb16_ hb17_ hb18_ hb19_ hb20_
                                  refine NoPanic.normal ?_
                                  have hlt2 := HLT.out
                                  have hlx2 := HLX.out
                                  go_wp2_with fail
                                  go_roundw
                                  case rel => exact ⟨i + 1, vAn, vcn, by go_num, by have := HLT.out; omega, by rw [HN.out]; exact Lib.hid Y5.out, by rw [HN.out]; exact Lib.hid RN.out, Lib.hid R2.out, Lib.hid R3.out, Lib.hid HW.out⟩
                                  case measure => have := HLT.out; simp [intOf]; omega
                              · obtain rfl : i = x233004_3.length := by omega
                                rw [List.take_length] at HBg HR4
                                have h5 := H5.out.2.1
                                simp only [Prod.mk.injEq, List.nil_append, List.length_nil, List.drop_zero] at h5
                                have HE := Lib.hid h5
                                clear h5 hlt hmx hi
                                generalize x233004_3.map convP = old at *
                                have HB2l := Lib.hid (blk_below_ HB2.out HBl.out)
                                have HB3l := Lib.hid (blk_below_ HB3.out HBl.out)
                                have NG2 : Hid (g ≠ gb230) := fun e => by have h1 := blk_lt HB2.out; have h2 := HGG.out; omega
                                have NG3 : Hid (g ≠ gb231) := fun e => by have h1 := blk_lt HB3.out; have h2 := HGG.out; omega
                                go_upto_region 29 with (fail)
                                clear q4
                                have QG : Aside0 (wl.drew.heap[g]? = _) := Aside0.mk HBg.out
                                have QQ : Aside0 (wl.drew.heap[gb232]? = _) := Aside0.mk HB4l.out
                                have F0 := Aside0.mk (Lib.hid (rfl : wl.drew = wl.drew))
                                refine wp_region_noPanic ?_
                                refine start_ (n := 4) (S := fun w' => True) (ds := []) #[false, false, false, false] (by kernel_rfl) rfl rfl trivial (fun hHeld => ?_)
                                refine with_tabW primerlaw15_made.tab29 primerlaw15_made.bits29 (fun HT_ HW_ => ?_)
                                refine inv_at [0, 1, 2, 3] (fun a0_ b a w' => a = putSel a0_ b [(0, 184, .agg #[.int .i64 st, .int .i64 nn, .slice A2 x233002_1.length c2, .slice A3 x233003_2.length c3, .slice vA old.length vc]), (1, 185, .agg #[.int .i64 st, .int .i64 nn, .slice An x233002_1.length cn, .slice At x233003_2.length ct, .slice A4 x233004_3.length c4])] ∧ (w'.heap[g]? = some (.cells #[.int .i64 st, .int .i64 nn, .slice A2 x233002_1.length c2, .slice A3 x233003_2.length c3, .slice vA old.length vc] 26 (0, 0))) ∧ (w'.heap[gb232]? = some (.cells #[.int .i64 st, .int .i64 nn, .slice An x233002_1.length cn, .slice At x233003_2.length ct, .slice A4 x233004_3.length c4] 48 (0, 0))) ∧ (b 2 = false → Hid (w' = wl.drew)) ∧ (b 2 = true → b 3 = false → Hid (w' = (((((wl.drew.setCell ⟨gb230, 0, none⟩ (.int .i64 st)).setCell ⟨gb230, 1, none⟩ (.int .i64 nn)).setCell ⟨gb230, 2, none⟩ (.slice A2 x233002_1.length c2)).setCell ⟨gb230, 3, none⟩ (.slice A3 x233003_2.length c3)).setCell ⟨gb230, 4, none⟩ (.slice vA old.length vc)))) ∧ (b 3 = true → Hid (w' = ((((((((((wl.drew.setCell ⟨gb230, 0, none⟩ (.int .i64 st)).setCell ⟨gb230, 1, none⟩ (.int .i64 nn)).setCell ⟨gb230, 2, none⟩ (.slice A2 x233002_1.length c2)).setCell ⟨gb230, 3, none⟩ (.slice A3 x233003_2.length c3)).setCell ⟨gb230, 4, none⟩ (.slice vA old.length vc)).setCell ⟨gb231, 0, none⟩ (.int .i64 st)).setCell ⟨gb231, 1, none⟩ (.int .i64 nn)).setCell ⟨gb231, 2, none⟩ (.slice An x233002_1.length cn)).setCell ⟨gb231, 3, none⟩ (.slice At x233003_2.length ct)).setCell ⟨gb231, 4, none⟩ (.slice A4 x233004_3.length c4))))) HT_.out HW_.out (by kernel_rfl) (by kernel_rfl) ?_ ?_ ?_
                                · exact ⟨by simp only [putSel, Bool.false_eq_true, if_false], QG.out, QQ.out, fun _ => F0.out, fun h_ => absurd h_ (by decide), fun h_ => absurd h_ (by decide)⟩
                                · skip
                                  clear F0 QG QQ
                                  refine steps_cons ?_ ?_
                                  · rintro b a w' ⟨ha, Q_QG, Q_QQ, Q_F0, Q_F1, Q_F2⟩ hb_ hon hoff
                                    refine ⟨_, rfl, fun K hK => ?_⟩
                                    have e13 : a.tmps[13]? = some (.pointer (some ⟨g, 0, none⟩)) := by rw [ha]; exact (putSel_off rfl).trans rfl
                                    replace ha := Aside0.mk ha
                                    have QG := Aside0.mk Q_QG
                                    have QQ := Aside0.mk Q_QQ
                                    have F0 := Aside0.mk (Q_F0 (hoff 2 (by kernel_rfl)))
                                    obtain ⟨⟨xa0, xa1, xa2, xa3, xa4⟩, xb0, xb1, xb2, xb3, xb4⟩ := facts5 QG.out
                                    refine value_ (w1 := w') (v := .agg #[.int .i64 st, .int .i64 nn, .slice A2 x233002_1.length c2, .slice A3 x233003_2.length c3, .slice vA old.length vc]) (by rfl) rfl ?_ ?_
                                    · go_simp
                                      (try simp only [i64_w])
                                      try rfl
                                    refine hK.out _ _ ⟨(by rw [ha.out]; exact putSel_upk 0 hb_ rfl rfl rfl), Q_QG, Q_QQ, Q_F0, fun h0_ _ => absurd ((hoff 2 (by kernel_rfl)).symm.trans h0_) (by decide), fun h0_ => absurd ((hoff 3 (by kernel_rfl)).symm.trans h0_) (by decide)⟩
                                  refine steps_cons ?_ ?_
                                  · rintro b a w' ⟨ha, Q_QG, Q_QQ, Q_F0, Q_F1, Q_F2⟩ hb_ hon hoff
                                    refine ⟨_, rfl, fun K hK => ?_⟩
                                    have e6 : a.tmps[6]? = some (.pointer (some ⟨gb232, 0, none⟩)) := by rw [ha]; exact (putSel_off rfl).trans rfl
                                    replace ha := Aside0.mk ha
                                    have QG := Aside0.mk Q_QG
                                    have QQ := Aside0.mk Q_QQ
                                    obtain ⟨⟨xa0, xa1, xa2, xa3, xa4⟩, xb0, xb1, xb2, xb3, xb4⟩ := facts5 QQ.out
                                    refine value_ (w1 := w') (v := .agg #[.int .i64 st, .int .i64 nn, .slice An x233002_1.length cn, .slice At x233003_2.length ct, .slice A4 x233004_3.length c4]) (by rfl) rfl ?_ ?_
                                    · go_simp
                                      (try simp only [i64_w])
                                      try rfl
                                    refine hK.out _ _ ⟨(by rw [ha.out]; exact putSel_upk 1 hb_ rfl rfl rfl), Q_QG, Q_QQ, Q_F0, Q_F1, fun h0_ => absurd ((hoff 3 (by kernel_rfl)).symm.trans h0_) (by decide)⟩
                                  refine steps_cons ?_ ?_
                                  · rintro b a w' ⟨ha, Q_QG, Q_QQ, Q_F0, Q_F1, Q_F2⟩ hb_ hon hoff
                                    refine ⟨_, rfl, fun K hK => ?_⟩
                                    have e2 : a.tmps[2]? = some (.pointer (some ⟨gb230, 0, none⟩)) := by rw [ha]; exact (putSel_off rfl).trans rfl
                                    have e184 : a.tmps[184]? = some (.agg #[.int .i64 st, .int .i64 nn, .slice A2 x233002_1.length c2, .slice A3 x233003_2.length c3, .slice vA old.length vc]) := by rw [ha]; exact putSel_on (e := (0, 184, .agg #[.int .i64 st, .int .i64 nn, .slice A2 x233002_1.length c2, .slice A3 x233003_2.length c3, .slice vA old.length vc])) 0 rfl rfl (hon 0 (by kernel_rfl)) rfl
                                    replace ha := Aside0.mk ha
                                    have QG := Aside0.mk Q_QG
                                    have QQ := Aside0.mk Q_QQ
                                    have F0 := Aside0.mk (Q_F0 hb_)
                                    have e_ := F0.out.out
                                    have hz_ : w'.heap[gb230]? = some (.cells #[.int .i64 0, .int .i64 0, .slice none 0 0, .slice none 0 0, .slice none 0 0] 26 (0, 0)) := by rw [e_]; exact HB2l.out
                                    obtain ⟨⟨xa0, xa1, xa2, xa3, xa4⟩, xb0, xb1, xb2, xb3, xb4⟩ := facts5 hz_
                                    clear e_ hz_
                                    refine skip_ (w1 := (((((w'.setCell ⟨gb230, 0, none⟩ (.int .i64 st)).setCell ⟨gb230, 1, none⟩ (.int .i64 nn)).setCell ⟨gb230, 2, none⟩ (.slice A2 x233002_1.length c2)).setCell ⟨gb230, 3, none⟩ (.slice A3 x233003_2.length c3)).setCell ⟨gb230, 4, none⟩ (.slice vA old.length vc))) (by rfl) rfl ?_ ?_
                                    · go_simp
                                    refine hK.out _ _ ⟨(by rw [ha.out]; exact putSel_none (v := undef) rfl), (far5 QG.out NG2.out _ _ _ _ _), (far5 QQ.out NB232_230.out _ _ _ _ _), fun h0_ => absurd ((up_self b 2).symm.trans h0_) (by decide), fun _ _ => (Lib.hid (by rw [F0.out.out])), fun h0_ => absurd ((hoff 3 (by kernel_rfl)).symm.trans h0_) (by decide)⟩
                                  refine steps_cons ?_ ?_
                                  · rintro b a w' ⟨ha, Q_QG, Q_QQ, Q_F0, Q_F1, Q_F2⟩ hb_ hon hoff
                                    refine ⟨_, rfl, fun K hK => ?_⟩
                                    have e3 : a.tmps[3]? = some (.pointer (some ⟨gb231, 0, none⟩)) := by rw [ha]; exact (putSel_off rfl).trans rfl
                                    have e185 : a.tmps[185]? = some (.agg #[.int .i64 st, .int .i64 nn, .slice An x233002_1.length cn, .slice At x233003_2.length ct, .slice A4 x233004_3.length c4]) := by rw [ha]; exact putSel_on (e := (1, 185, .agg #[.int .i64 st, .int .i64 nn, .slice An x233002_1.length cn, .slice At x233003_2.length ct, .slice A4 x233004_3.length c4])) 1 rfl rfl (hon 1 (by kernel_rfl)) rfl
                                    replace ha := Aside0.mk ha
                                    have QG := Aside0.mk Q_QG
                                    have QQ := Aside0.mk Q_QQ
                                    have F1 := Aside0.mk (Q_F1 (hon 2 (by kernel_rfl)) hb_)
                                    have e_ := F1.out.out
                                    have hz_ : w'.heap[gb231]? = some (.cells #[.int .i64 0, .int .i64 0, .slice none 0 0, .slice none 0 0, .slice none 0 0] 48 (0, 0)) := by rw [e_]; exact far5 HB3l.out NB231_230.out _ _ _ _ _
                                    obtain ⟨⟨xa0, xa1, xa2, xa3, xa4⟩, xb0, xb1, xb2, xb3, xb4⟩ := facts5 hz_
                                    clear e_ hz_
                                    refine skip_ (w1 := (((((w'.setCell ⟨gb231, 0, none⟩ (.int .i64 st)).setCell ⟨gb231, 1, none⟩ (.int .i64 nn)).setCell ⟨gb231, 2, none⟩ (.slice An x233002_1.length cn)).setCell ⟨gb231, 3, none⟩ (.slice At x233003_2.length ct)).setCell ⟨gb231, 4, none⟩ (.slice A4 x233004_3.length c4))) (by rfl) rfl ?_ ?_
                                    · go_simp
                                    refine hK.out _ _ ⟨(by rw [ha.out]; exact putSel_none (v := undef) rfl), (far5 QG.out NG3.out _ _ _ _ _), (far5 QQ.out NB232_231.out _ _ _ _ _), fun h0_ => absurd ((hon 2 (by kernel_rfl)).symm.trans h0_) (by decide), fun _ h1_ => absurd ((up_self b 3).symm.trans h1_) (by decide), fun _ => (Lib.hid (by rw [F1.out.out]))⟩
                                  exact steps_nil
                                · rintro b a w' hall ⟨ha, Q_QG, Q_QQ, Q_F0, Q_F1, Q_F2⟩
                                  clear F0 QG QQ
                                  have hb0_ := hall 0 (by kernel_rfl)
                                  have hb1_ := hall 1 (by kernel_rfl)
                                  have hb2_ := hall 2 (by kernel_rfl)
                                  have hb3_ := hall 3 (by kernel_rfl)
                                  subst ha
                                  simp only [putSel, hb0_, hb1_, hb2_, hb3_, if_true, Act.put, List.setIfInBounds_toArray, List.set_cons_zero, List.set_cons_succ]
                                  have QG := Aside0.mk Q_QG
                                  clear Q_QG
                                  have QQ := Aside0.mk Q_QQ
                                  clear Q_QQ
                                  clear Q_F0
                                  clear Q_F1
                                  have F2 := Aside0.mk (Q_F2 hb3_)
                                  clear Q_F2
                                  clear hall hb0_ hb1_ hb2_ hb3_
                                  refine NoPanic.normal ?_
                                  have e_ := F2.out.out
                                  clear F2
                                  subst e_
                                  go_wp2_with fail
                                  refine bodyPost_ret (results_cc rfl _ _ gb230 gb231 26 48 #[.int .i64 st, .int .i64 nn, .slice A2 x233002_1.length c2, .slice A3 x233003_2.length c3, .slice vA old.length vc] #[.int .i64 st, .int .i64 nn, .slice An x233002_1.length cn, .slice At x233003_2.length ct, .slice A4 x233004_3.length c4] (0, 0) (0, 0) _ _ rfl ?a1 Try.underlying26 rfl (by kernel_rfl) rfl ?a2 Try.underlying48 rfl (by kernel_rfl)) rfl ?a3
                                  case a1 => exact far5 (put5 HB2l.out _ _ _ _ _) NB230_231.out _ _ _ _ _
                                  case a2 => exact put5 (far5 HB3l.out NB231_230.out _ _ _ _ _) _ _ _ _ _
                                  case a3 =>
                                    have HB2d : Hid (wl.drew.heap[gb230]? = _) := HB2l
                                    have HB3d : Hid (wl.drew.heap[gb231]? = _) := HB3l
                                    obtain ⟨e1, e2, e3, e4, e5, e6, e7, e8, e9, e10⟩ := HE.out
                                    rw [e1, e2, e3, e4, e5, e6, e7, e8, e9, e10, HY1.out, HY2.out]
                                    refine ⟨A2, c2, A3, c3, vA, vc, An, cn, At, ct, A4, c4, rfl, ⟨?_, ?_, ?_⟩, ⟨?_, ?_, ?_⟩, ?_⟩
                                    · have h_ := R_put55 (Kd.R_drew HR2.out) HB2d.out HB3d.out NB231_230.out (by decide) (by decide) (.int .i64 st) (.int .i64 nn) (.slice A2 x233002_1.length c2) (.slice A3 x233003_2.length c3) (.slice vA old.length vc) (.int .i64 st) (.int .i64 nn) (.slice An x233002_1.length cn) (.slice At x233003_2.length ct) (.slice A4 x233004_3.length c4)
                                      exact row_of h_
                                    · have h_ := R_put55 (Kd.R_drew HR3.out) HB2d.out HB3d.out NB231_230.out (by decide) (by decide) (.int .i64 st) (.int .i64 nn) (.slice A2 x233002_1.length c2) (.slice A3 x233003_2.length c3) (.slice vA old.length vc) (.int .i64 st) (.int .i64 nn) (.slice An x233002_1.length cn) (.slice At x233003_2.length ct) (.slice A4 x233004_3.length c4)
                                      exact row_of h_
                                    · have h_ := R_put55 (Kd.R_drew HR4.out) HB2d.out HB3d.out NB231_230.out (by decide) (by decide) (.int .i64 st) (.int .i64 nn) (.slice A2 x233002_1.length c2) (.slice A3 x233003_2.length c3) (.slice vA old.length vc) (.int .i64 st) (.int .i64 nn) (.slice An x233002_1.length cn) (.slice At x233003_2.length ct) (.slice A4 x233004_3.length c4)
                                      exact row_of h_
                                    · have h_ := R_put55 (Kd.R_drew (Kd.R_below HQ2.out HBl.out)) HB2d.out HB3d.out NB231_230.out (by decide) (by decide) (.int .i64 st) (.int .i64 nn) (.slice A2 x233002_1.length c2) (.slice A3 x233003_2.length c3) (.slice vA old.length vc) (.int .i64 st) (.int .i64 nn) (.slice An x233002_1.length cn) (.slice At x233003_2.length ct) (.slice A4 x233004_3.length c4)
                                      exact row_of h_
                                    · have h_ := R_put55 (Kd.R_drew (Kd.R_below HQ3.out HBl.out)) HB2d.out HB3d.out NB231_230.out (by decide) (by decide) (.int .i64 st) (.int .i64 nn) (.slice A2 x233002_1.length c2) (.slice A3 x233003_2.length c3) (.slice vA old.length vc) (.int .i64 st) (.int .i64 nn) (.slice An x233002_1.length cn) (.slice At x233003_2.length ct) (.slice A4 x233004_3.length c4)
                                      exact row_of h_
                                    · have h_ := R_put55 (Kd.R_drew (Kd.R_below HQ4.out HBl.out)) HB2d.out HB3d.out NB231_230.out (by decide) (by decide) (.int .i64 st) (.int .i64 nn) (.slice A2 x233002_1.length c2) (.slice A3 x233003_2.length c3) (.slice vA old.length vc) (.int .i64 st) (.int .i64 nn) (.slice An x233002_1.length cn) (.slice At x233003_2.length ct) (.slice A4 x233004_3.length c4)
                                      exact row_of h_
                                    · exact below_put5 (below_put5 (below_drew (below_step HBW.out HBl.out)) GE230.out _ _ _ _ _) GE231.out _ _ _ _ _
                        · rw [if_neg c104] at H
                          exact absurd H (by simp)
                      · rw [if_neg c103] at H
                        exact absurd H (by simp)

end Go.Proofs.Ytnkpmogpmcggiaa
