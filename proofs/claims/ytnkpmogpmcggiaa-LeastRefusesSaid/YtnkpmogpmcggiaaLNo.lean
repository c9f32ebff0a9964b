/- Words that are too long: their elements are never looked at. -/
import Derived.Test.YtnkpmogpmcggiaaLSpeaks
import Derived.Laws.Bits128
set_option linter.unusedVariables false
set_option linter.unusedSimpArgs false
namespace Go.Proofs.Ytnkpmogpmcggiaa
open Go.RowKit Go.Proofs.YtnkpmogpmcggiaaW.PrintWords Go.Proofs.YtnkpmogpmcggiaaW.PrintLast Go.Proofs.YtnkpmogpmcggiaaW.PrintMore

theorem and7 (n : Int) : bits .and .i64 n 7 = n % 8 := by
  have h7 : (BitVec.ofInt 64 7).toNat = 2 ^ 3 - 1 := by decide
  have key : (BitVec.ofInt 64 n &&& BitVec.ofInt 64 7).toNat = (n % ((2 ^ 64 : Nat) : Int)).toNat % 2 ^ 3 := by
    rw [BitVec.toNat_and, BitVec.toNat_ofInt, h7, Nat.and_two_pow_sub_one_eq_mod]
  show IntKind.i64.wrap ((BitVec.ofInt 64 n &&& BitVec.ofInt 64 7).toNat : Nat) = n % 8
  rw [key, IntKind.wrap_i64]
  omega
theorem mask7 (n : Int) : ∃ m : Nat, wrap64 (60 + bits BinOp.and IntKind.i64 n 7) = (m : Int) ∧ m ≤ 67 := by
  rw [and7, w64 (by omega) (by omega)]
  exact ⟨(60 + n % 8).toNat, by omega, by omega⟩

section
variable {A2 : Option Addr} {c2 : Nat} {A3 : Option Addr} {c3 : Nat} {A4 : Option Addr} {c4 : Nat} {A5 : Option Addr} {c5 : Nat} {m : Nat} {w : World}
set_option maxHeartbeats 4000000 in
theorem right_long (h : DAt w A2 c2 A3 c3 A4 c4) (hm : 64 < m) (hm2 : m ≤ 1000) : Calls Try.prog 18 #[.agg #[.int .i64 0, .int .i64 1, .slice A2 1 c2, .slice A3 1 c3, .slice A4 3 c4], .slice A5 m c5] w fun e w' => e = .returned (.bool false) ∧ Below w.heap.size w w' := by
  have HS := Lib.hid (fun (W : World) (hb : Below w.heap.size w W) => sound_true (start := 0) (rules := 1) (l2 := dN) (l3 := dT) (l4 := dP) (c2 := c2) (c3 := c3) (c4 := c4) (h.below hb).r2 (h.below hb).r3 (h.below hb).r4 d_sound (by decide) (by decide))
  clear h
  go_enter Try.func18, Try.ntmps18
  have HB0 := Lib.hid ((Below.refl w.heap.size w).alloc (Nat.le_refl _) (.cells #[.int .i64 0, .int .i64 1, .slice A2 1 c2, .slice A3 1 c3, .slice A4 3 c4] 26))
  go_wp2_with fail
  refine (HS.out _ HB0.out).mono ?_
  rintro e w1 ⟨rfl, hb1⟩
  have HB1 := Lib.hid (HB0.out.trans (hb1.mono (by simp)))
  clear hb1
  go_wp2_with fail
  go_ret
  exact ⟨rfl, HB1.out⟩

set_option maxHeartbeats 4000000 in
theorem nodes_long (h : DAt w A2 c2 A3 c3 A4 c4) (hm : 64 < m) (hm2 : m ≤ 1000) :
    Calls Try.prog 10 #[.agg #[.int .i64 0, .int .i64 1, .slice A2 1 c2, .slice A3 1 c3, .slice A4 3 c4], .slice A5 m c5] w fun e w' => e = .returned (.int .i64 (-1)) ∧ Below w.heap.size w w' := by
  have HR := Lib.hid (fun (W : World) (hb : Below w.heap.size w W) => right_long (A5 := A5) (c5 := c5) (h.below hb) hm hm2)
  clear h
  have HB0 := Lib.hid ((Below.refl w.heap.size w).alloc (Nat.le_refl _) (.cells #[.int .i64 0, .int .i64 1, .slice A2 1 c2, .slice A3 1 c3, .slice A4 3 c4] 26))
  go_enter Try.func10, Try.ntmps10
  go_wp2_with fail
  refine (HR.out _ HB0.out).mono ?_
  rintro e w1 ⟨rfl, hb1⟩
  have HB1 := Lib.hid (HB0.out.trans (hb1.mono (by simp)))
  clear hb1
  go_wp2_with fail
  go_ret
  exact ⟨rfl, HB1.out⟩

set_option maxHeartbeats 4000000 in
theorem tree_long (h : DAt w A2 c2 A3 c3 A4 c4) (hm : 64 < m) (hm2 : m ≤ 1000) :
    Calls Try.prog 9 #[.agg #[.int .i64 0, .int .i64 1, .slice A2 1 c2, .slice A3 1 c3, .slice A4 3 c4], .slice A5 m c5] w fun e w' => e = .returned (.tuple #[.agg #[.int .i64 0, .slice none 0 0], .int .i64 1]) ∧ Below w.heap.size w w' := by
  have HR := Lib.hid (fun (W : World) (hb : Below w.heap.size w W) => right_long (A5 := A5) (c5 := c5) (h.below hb) hm hm2)
  clear h
  have HB0 := Lib.hid ((Below.refl w.heap.size w).alloc (Nat.le_refl _) (.cells #[.int .i64 0, .int .i64 1, .slice A2 1 c2, .slice A3 1 c3, .slice A4 3 c4] 26))
  have HBP := Lib.hid (heap_alloc_new w (.cells #[.int .i64 0, .int .i64 1, .slice A2 1 c2, .slice A3 1 c3, .slice A4 3 c4] 26))
  go_enter Try.func9, Try.ntmps9
  go_wp2_with (first | ((with_reducible refine gate_dst (N := 4) rfl ?_); refine box_event ?hg (N := 4) ?hd (cs := #[.int .i64 0, .slice none 0 0]) (t := 30) ?hr ?_; (case hd => rfl); (case hg => rfl); (case hr => first | (go_simp; done) | (go_simp; rfl)); intro gb hgb w1 hbox hb; have HXgb := Lib.hid hbox; have HBgb := Lib.hid (HB0.out.trans (hb.mono (by simp))); have HGgb : Hid (w.heap.size + 1 = gb) := (by show w.heap.size + 1 = gb; rw [hgb]; simp); have HP1 := Lib.hid ((hb.block w.heap.size (by simp)).trans HBP.out); have q0 := blk_cell HP1.out 0; have q1 := blk_cell HP1.out 1; have q2 := blk_cell HP1.out 2; have q3 := blk_cell HP1.out 3; have q4 := blk_cell HP1.out 4; simp only [List.getElem?_toArray, List.getElem?_cons_zero, List.getElem?_cons_succ] at q0 q1 q2 q3 q4; clear hbox hb hgb))
  refine (HR.out _ HBgb.out).mono ?_
  rintro e w2 ⟨rfl, hb2⟩
  have hgl : gb < w1.heap.size := blk_lt HXgb.out
  have HX2 := Lib.hid ((hb2.block gb hgl).trans HXgb.out)
  have HB2 := Lib.hid (HBgb.out.trans (hb2.mono HBgb.out.size))
  clear hb2 q0 q1 q2 q3 q4
  have f0 := frozen_of_row w2 gb 0 _ _ HX2.out
  have f1 := frozen_of_row w2 gb 1 _ _ HX2.out
  have k0 := blk_cell HX2.out 0
  have k1 := blk_cell HX2.out 1
  simp only [List.getElem?_toArray, List.getElem?_cons_zero, List.getElem?_cons_succ] at k0 k1
  go_wp2_with fail
  refine bodyPost_ret (results_cell_tmp_row rfl _ _ gb 30 #[.int .i64 0, .slice none 0 0] (0, 0) _ rfl (put30 HX2.out _ _) Try.underlying30 rfl (by kernel_rfl) (.int .i64 1) rfl) rfl ?_
  exact ⟨rfl, below2 HB2.out (by rw [← HGgb.out]; omega) _ _⟩
end
end Go.Proofs.Ytnkpmogpmcggiaa
