/- plain.Sound where the start alone is none; least.right. -/
import Derived.Test.YtnkpmogpmcggiaaLSound
set_option linter.unusedVariables false
set_option linter.unusedSimpArgs false
namespace Go.Proofs.Ytnkpmogpmcggiaa
open Go.RowKit Go.Proofs.YtnkpmogpmcggiaaW.PrintWords Go.Proofs.YtnkpmogpmcggiaaW.PrintLast Go.Proofs.YtnkpmogpmcggiaaW.PrintMore
section
variable {start rules : Int} {A2 : Option Addr} {c2 : Nat} {l2 : List ByteArray} {A3 : Option Addr} {c3 : Nat} {l3 : List ByteArray} {A4 : Option Addr} {c4 : Nat} {l4 : List S39} {w : World}
set_option maxHeartbeats 4000000 in
theorem sound_false (hr2 : Kd.C Kd.string w A2 l2.length l2) (hr3 : Kd.C Kd.string w A3 l3.length l3) (hr4 : Kd.C k39 w A4 l4.length l4) (h : SoundL rules l2 l3 l4) (hs : start < 0 ∨ (l2.length : Int) ≤ start) :
    Calls Try.prog 22 #[.agg #[.int .i64 start, .int .i64 rules, .slice A2 l2.length c2, .slice A3 l3.length c3, .slice A4 l4.length c4]] w fun e w' => e = .returned (.bool false) ∧ Below w.heap.size w w' := by
  have H2 := Lib.hid hr2
  have H3 := Lib.hid hr3
  have H4 := Lib.hid hr4
  have HS := Lib.hid h
  obtain ⟨n1, n2, r1, r2, _, t2, _, p2, _, _⟩ := h
  have DN := Lib.hid (fun (W : World) (hb : Below w.heap.size w W) => distinct_true A2 c2 l2 65536 W (Kd.C_below H2.out hb) (by omega) HS.out.names (by omega))
  have DT := Lib.hid (fun (W : World) (hb : Below w.heap.size w W) => distinct_true A3 c3 l3 16 W (Kd.C_below H3.out hb) (by omega) HS.out.terms (by omega))
  clear hr2 hr3 hr4
  go_enter Try.func22, Try.ntmps22
  have HB0 := Lib.hid ((Below.refl w.heap.size w).alloc (Nat.le_refl _) (.cells #[.int .i64 start, .int .i64 rules, .slice A2 l2.length c2, .slice A3 l3.length c3, .slice A4 l4.length c4] 26))
  go_wp2_with fail
  refine (DN.out _ HB0.out).mono ?_
  rintro e w1 ⟨rfl, hb1⟩
  have hblk1 : w1.heap[w.heap.size]? = some (.cells #[.int .i64 start, .int .i64 rules, .slice A2 l2.length c2, .slice A3 l3.length c3, .slice A4 l4.length c4] 26 (0, 0)) := (hb1.block w.heap.size (by simp)).trans (heap_alloc_new w _)
  have HB1 := Lib.hid (HB0.out.trans (hb1.mono (by simp)))
  have a0 := blk_cell hblk1 0
  have a1 := blk_cell hblk1 1
  have a2 := blk_cell hblk1 2
  have a3 := blk_cell hblk1 3
  have a4 := blk_cell hblk1 4
  simp only [List.getElem?_toArray, List.getElem?_cons_zero, List.getElem?_cons_succ] at a0 a1 a2 a3 a4
  have HK1 := Lib.hid hblk1
  clear hb1 hblk1
  go_wp2_with fail
  refine (DT.out _ HB1.out).mono ?_
  rintro e w2 ⟨rfl, hb2⟩
  have hblk2 : w2.heap[w.heap.size]? = some (.cells #[.int .i64 start, .int .i64 rules, .slice A2 l2.length c2, .slice A3 l3.length c3, .slice A4 l4.length c4] 26 (0, 0)) := (hb2.block w.heap.size (blk_lt HK1.out)).trans HK1.out
  have HB2 := Lib.hid (HB1.out.trans (hb2.mono HB1.out.size))
  clear a0 a1 a2 a3 a4
  have a0 := blk_cell hblk2 0
  have a1 := blk_cell hblk2 1
  have a2 := blk_cell hblk2 2
  have a3 := blk_cell hblk2 3
  have a4 := blk_cell hblk2 4
  simp only [List.getElem?_toArray, List.getElem?_cons_zero, List.getElem?_cons_succ] at a0 a1 a2 a3 a4
  have HK2 := Lib.hid hblk2
  clear hb2 hblk2 HK1 HB1 HB0
  by_cases s0 : start < 0
  · have d0 : decide (start < 0) = true := decide_eq_true s0
    go_wp2_with fail
    go_ret
    exact ⟨rfl, HB2.out⟩
  · have d0 : decide (start < 0) = false := decide_eq_false s0
    have d1 : decide ((l2.length : Int) ≤ start) = true := decide_eq_true (by omega)
    go_wp2_with fail
    go_ret
    exact ⟨rfl, HB2.out⟩

set_option maxHeartbeats 4000000 in
theorem right_calls (sb : Bool) {A1 : Option Addr} {c1 : Nat} {l1 : List Int} (hr3 : Kd.C Kd.string w A3 l3.length l3) (hr1 : Kd.C (Kd.int .i64) w A1 l1.length l1)
    (hS : ∀ W : World, Below w.heap.size w W → Calls Try.prog 22 #[.agg #[.int .i64 start, .int .i64 rules, .slice A2 l2.length c2, .slice A3 l3.length c3, .slice A4 l4.length c4]] W fun e w' => e = .returned (.bool sb) ∧ Below W.heap.size W w') :
    Calls Try.prog 18 #[.agg #[.int .i64 start, .int .i64 rules, .slice A2 l2.length c2, .slice A3 l3.length c3, .slice A4 l4.length c4], .slice A1 l1.length c1] w fun e w' =>
      e = .returned (.bool (sb && (decide ((l1.length : Int) ≤ 64) && !(l1.any (termOut l3.length))))) ∧ Below w.heap.size w w' := by
  have H1 := Lib.hid hr1
  have HS := Lib.hid hS
  have hmx := Kd.C_max hr1
  clear hr3 hr1 hS
  cases sb
  · go_enter Try.func18, Try.ntmps18
    have HB0 := Lib.hid ((Below.refl w.heap.size w).alloc (Nat.le_refl _) (.cells #[.int .i64 start, .int .i64 rules, .slice A2 l2.length c2, .slice A3 l3.length c3, .slice A4 l4.length c4] 26))
    go_wp2_with fail
    refine (HS.out _ HB0.out).mono ?_
    rintro e w1 ⟨rfl, hb1⟩
    have HB1 := Lib.hid (HB0.out.trans (hb1.mono (by simp)))
    clear hb1
    go_wp2_with fail
    go_ret
    exact ⟨rfl, HB1.out⟩
  · by_cases hl : (l1.length : Int) ≤ 64
    · have d1 : decide ((l1.length : Int) ≤ 64) = true := decide_eq_true hl
      rw [d1]
      go_enter Try.func18, Try.ntmps18
      have HB0 := Lib.hid ((Below.refl w.heap.size w).alloc (Nat.le_refl _) (.cells #[.int .i64 start, .int .i64 rules, .slice A2 l2.length c2, .slice A3 l3.length c3, .slice A4 l4.length c4] 26))
      go_wp2_with fail
      refine (HS.out _ HB0.out).mono ?_
      rintro e w1 ⟨rfl, hb1⟩
      have HB1 := Lib.hid (HB0.out.trans (hb1.mono (by simp)))
      have hblk1 : w1.heap[w.heap.size]? = some (.cells #[.int .i64 start, .int .i64 rules, .slice A2 l2.length c2, .slice A3 l3.length c3, .slice A4 l4.length c4] 26 (0, 0)) := (hb1.block w.heap.size (by simp)).trans (heap_alloc_new w _)
      have HK := Lib.hid hblk1
      have hz := blk_lt hblk1
      have CP := Lib.hid (contains_func25 (.pointer (some ⟨w.heap.size, 0, none⟩)) (termOut l3.length) A1 c1 l1 w1 (Kd.C_below H1.out HB1.out) (fun W' y hb' => right_pred w.heap.size A3 l3.length c3 W' y
          ((hb'.cell (p := ⟨w.heap.size, 3, none⟩) hz).trans (by rw [blk_cell HK.out 3]; rfl))))
      clear hb1 hblk1
      go_wp2_with fail
      refine CP.out.mono ?_
      rintro e w2 ⟨rfl, hb2⟩
      have HB2 := Lib.hid (HB1.out.trans (hb2.mono HB1.out.size))
      clear hb2
      go_wp2_with fail
      go_ret
      exact ⟨by simp, HB2.out⟩
    · have d1 : decide ((l1.length : Int) ≤ 64) = false := decide_eq_false hl
      rw [d1]
      go_enter Try.func18, Try.ntmps18
      have HB0 := Lib.hid ((Below.refl w.heap.size w).alloc (Nat.le_refl _) (.cells #[.int .i64 start, .int .i64 rules, .slice A2 l2.length c2, .slice A3 l3.length c3, .slice A4 l4.length c4] 26))
      go_wp2_with fail
      refine (HS.out _ HB0.out).mono ?_
      rintro e w1 ⟨rfl, hb1⟩
      have HB1 := Lib.hid (HB0.out.trans (hb1.mono (by simp)))
      clear hb1
      go_wp2_with fail
      go_ret
      exact ⟨rfl, HB1.out⟩
end
end Go.Proofs.Ytnkpmogpmcggiaa
