/- plain.Sound of grammars that are sound but, perhaps, for their start; least.right. -/
import Derived.Test.YtnkpmogpmcggiaaLContains
import Derived.Test.YtnkpmogpmcggiaaLDistinct
set_option linter.unusedVariables false
set_option linter.unusedSimpArgs false
namespace Go.Proofs.Ytnkpmogpmcggiaa
open Go.RowKit Go.Proofs.YtnkpmogpmcggiaaW.PrintWords Go.Proofs.YtnkpmogpmcggiaaW.PrintLast Go.Proofs.YtnkpmogpmcggiaaW.PrintMore

def symOut (n t : Nat) (x : Int) : Bool := decide ((n : Int) ≤ x) || decide (x < -(t : Int))

theorem sound_pred (g : Nat) (A2 : Option Addr) (n2 c2 : Nat) (A3 : Option Addr) (n3 c3 : Nat) (W : World) (x : Int) (h2 : W.cell? ⟨g, 2, none⟩ = some (.slice A2 n2 c2)) (h3 : W.cell? ⟨g, 3, none⟩ = some (.slice A3 n3 c3)) (k3 : n3 ≤ 256) :
    Calls Try.prog 31 #[.int .i64 x, .pointer (some ⟨g, 0, none⟩)] W fun e w' => e = .returned (.bool (symOut n2 n3 x)) ∧ Below W.heap.size W w' := by
  unfold symOut
  by_cases c1 : (n2 : Int) ≤ x
  · rw [decide_eq_true c1]
    have d1 : decide ((n2 : Int) ≤ x) = true := decide_eq_true c1
    go_enter Try.func31, Try.ntmps31
    go_wp2
    go_ret
    exact ⟨rfl, Below.refl _ _⟩
  · rw [decide_eq_false c1]
    have d1 : decide ((n2 : Int) ≤ x) = false := decide_eq_false c1
    clear c1
    go_enter Try.func31, Try.ntmps31
    go_wp2
    go_ret
    exact ⟨by simp, Below.refl _ _⟩

def termOut (t : Nat) (x : Int) : Bool := decide (x < 0) || decide ((t : Int) ≤ x)
theorem right_pred (g : Nat) (A3 : Option Addr) (n3 c3 : Nat) (W : World) (x : Int) (h3 : W.cell? ⟨g, 3, none⟩ = some (.slice A3 n3 c3)) :
    Calls Try.prog 25 #[.int .i64 x, .pointer (some ⟨g, 0, none⟩)] W fun e w' => e = .returned (.bool (termOut n3 x)) ∧ Below W.heap.size W w' := by
  unfold termOut
  by_cases c1 : x < 0
  · rw [decide_eq_true c1]
    have d1 : decide (x < 0) = true := decide_eq_true c1
    go_enter Try.func25, Try.ntmps25
    go_wp2
    go_ret
    exact ⟨rfl, Below.refl _ _⟩
  · rw [decide_eq_false c1]
    have d1 : decide (x < 0) = false := decide_eq_false c1
    clear c1
    go_enter Try.func25, Try.ntmps25
    go_wp2
    go_ret
    exact ⟨by simp, Below.refl _ _⟩

/-- What a sound grammar's lists are. -/
structure SoundL (rules : Int) (l2 l3 : List ByteArray) (l4 : List S39) : Prop where
  n1 : 1 ≤ l2.length
  n2 : l2.length ≤ 256
  r1 : 0 ≤ rules
  r2 : rules ≤ l2.length
  names : Apart l2 65536
  t2 : l3.length ≤ 256
  terms : Apart l3 16
  p2 : l4.length ≤ 256
  left : ∀ x ∈ l4, 0 ≤ x.f0 ∧ x.f0 < l2.length ∧ x.f1.length ≤ 16 ∧ x.f1.any (symOut l2.length l3.length) = false
  order : ∀ k, k + 1 < l4.length → (rd_T39 l4 k).f0 ≤ (rd_T39 l4 (k + 1 : Nat)).f0

section
variable {start rules : Int} {A2 : Option Addr} {c2 : Nat} {l2 : List ByteArray} {A3 : Option Addr} {c3 : Nat} {l3 : List ByteArray} {A4 : Option Addr} {c4 : Nat} {l4 : List S39} {w : World}
set_option maxHeartbeats 4000000 in
theorem sound_true (hr2 : Kd.C Kd.string w A2 l2.length l2) (hr3 : Kd.C Kd.string w A3 l3.length l3) (hr4 : Kd.C k39 w A4 l4.length l4) (h : SoundL rules l2 l3 l4) (s0 : 0 ≤ start) (s1 : start < l2.length) :
    Calls Try.prog 22 #[.agg #[.int .i64 start, .int .i64 rules, .slice A2 l2.length c2, .slice A3 l3.length c3, .slice A4 l4.length c4]] w fun e w' => e = .returned (.bool true) ∧ Below w.heap.size w w' := by
  have H2 := Lib.hid hr2
  have H3 := Lib.hid hr3
  have H4 := Lib.hid hr4
  have HS := Lib.hid h
  obtain ⟨n1, n2, r1, r2, _, t2, _, p2, _, _⟩ := h
  have DN := Lib.hid (fun (W : World) (hb : Below w.heap.size w W) => distinct_true A2 c2 l2 65536 W (Kd.C_below H2.out hb) (by omega) HS.out.names (by omega))
  have DT := Lib.hid (fun (W : World) (hb : Below w.heap.size w W) => distinct_true A3 c3 l3 16 W (Kd.C_below H3.out hb) (by omega) HS.out.terms (by omega))
  clear hr2 hr3 hr4
  go_enter Try.func22, Try.ntmps22
  have HB0 := Lib.hid ((Below.refl w.heap.size w).alloc (Nat.le_refl _) (.cells #[.int .i64 start, .int .i64 rules, .slice A2 l2.length c2, .slice A3 l3.length c3, .slice A4 l4.length c4] 26))
  go_wp2_with fail
  refine (DN.out _ HB0.out).mono ?_
  rintro e w1 ⟨rfl, hb1⟩
  have hblk1 : w1.heap[w.heap.size]? = some (.cells #[.int .i64 start, .int .i64 rules, .slice A2 l2.length c2, .slice A3 l3.length c3, .slice A4 l4.length c4] 26 (0, 0)) := (hb1.block w.heap.size (by simp)).trans (heap_alloc_new w _)
  have HB1 := Lib.hid (HB0.out.trans (hb1.mono (by simp)))
  have a0 := blk_cell hblk1 0
  have a1 := blk_cell hblk1 1
  have a2 := blk_cell hblk1 2
  have a3 := blk_cell hblk1 3
  have a4 := blk_cell hblk1 4
  simp only [List.getElem?_toArray, List.getElem?_cons_zero, List.getElem?_cons_succ] at a0 a1 a2 a3 a4
  have HK1 := Lib.hid hblk1
  clear hb1 hblk1
  go_wp2_with fail
  refine (DT.out _ HB1.out).mono ?_
  rintro e w2 ⟨rfl, hb2⟩
  have hblk2 : w2.heap[w.heap.size]? = some (.cells #[.int .i64 start, .int .i64 rules, .slice A2 l2.length c2, .slice A3 l3.length c3, .slice A4 l4.length c4] 26 (0, 0)) := (hb2.block w.heap.size (blk_lt HK1.out)).trans HK1.out
  have HB2 := Lib.hid (HB1.out.trans (hb2.mono HB1.out.size))
  clear a0 a1 a2 a3 a4
  have a0 := blk_cell hblk2 0
  have a1 := blk_cell hblk2 1
  have a2 := blk_cell hblk2 2
  have a3 := blk_cell hblk2 3
  have a4 := blk_cell hblk2 4
  simp only [List.getElem?_toArray, List.getElem?_cons_zero, List.getElem?_cons_succ] at a0 a1 a2 a3 a4
  have HK2 := Lib.hid hblk2
  clear hb2 hblk2 HK1 HB1 HB0
  go_wp2_with fail
  clear a0 a1 a2 a3 a4
  go_loopw [66] (fun i wr => ∃ k : Nat, k ≤ l4.length ∧ i = .int .i64 k ∧ Hid (wr.heap[w.heap.size]? = some (.cells #[.int .i64 start, .int .i64 rules, .slice A2 l2.length c2, .slice A3 l3.length c3, .slice A4 l4.length c4] 26 (0, 0))) ∧ Hid (Below w.heap.size w wr)) (fun i _ => l4.length - (intOf i).toNat)
  case atStart => exact ⟨0, Nat.zero_le _, rfl, HK2, HB2⟩
  case round =>
    obtain ⟨k, hk, rfl, HK, HB⟩ := hrel
    by_cases hlt : k < l4.length
    · have a2 := blk_cell HK.out 2
      have a3 := blk_cell HK.out 3
      have a4 := blk_cell HK.out 4
      simp only [List.getElem?_toArray, List.getElem?_cons_zero, List.getElem?_cons_succ] at a2 a3 a4
      obtain ⟨ad, B1, c1, rfl, x0, x1, x2, x3⟩ := at_T39 (Kd.C_below H4.out HB.out) (k : Int) (by omega) (by omega)
      have hmem : rd_T39 l4 k ∈ l4 := by
        have : rd_T39 l4 k = l4[k] := by simp [rd_T39, List.getD_eq_getElem?_getD, List.getElem?_eq_getElem hlt]
        rw [this]; exact List.getElem_mem hlt
      obtain ⟨q1, q2, q3, q4⟩ := HS.out.left _ hmem
      have hprev : Hid (k = 0 ∨ ∃ j, k = j + 1 ∧ (rd_T39 l4 j).f0 ≤ (rd_T39 l4 k).f0 ∧ wr.cell? (ad.add (j * 2)) = some (.int .i64 (rd_T39 l4 j).f0)) := by
        cases k with
        | zero => exact .inl rfl
        | succ j =>
          obtain ⟨ad', _, _, e, y0, _⟩ := at_T39 (Kd.C_below H4.out HB.out) (j : Int) (by omega) (by omega)
          cases e
          exact .inr ⟨j, rfl, HS.out.order j hlt, by simpa using y0⟩
      rw [Int.toNat_natCast] at x0 x1
      generalize hxx : rd_T39 l4 k = x at *
      obtain ⟨xl, xr⟩ := x
      simp only at x0 x1 x2 x3 q1 q2 q3 q4
      have X3 := Lib.hid x3
      have Q4 := Lib.hid q4
      have d1 : decide (xl < 0) = false := decide_eq_false (by omega)
      have d2 : decide ((l2.length : Int) ≤ xl) = false := decide_eq_false (by omega)
      have d3 : decide ((16 : Int) < xr.length) = false := decide_eq_false (by omega)
      have hz := blk_lt HK.out
      have CP := Lib.hid (fun (W : World) (hb : Below wr.heap.size wr W) => contains_func31 (.pointer (some ⟨w.heap.size, 0, none⟩)) (symOut l2.length l3.length) B1 c1 xr W (Kd.C_below X3.out hb) (fun W' y hb' => sound_pred w.heap.size A2 l2.length c2 A3 l3.length c3 W' y
          ((hb'.cell (p := ⟨w.heap.size, 2, none⟩) (Nat.lt_of_lt_of_le hz hb.size)).trans ((hb.cell (p := ⟨w.heap.size, 2, none⟩) hz).trans (by rw [blk_cell HK.out 2]; rfl)))
          ((hb'.cell (p := ⟨w.heap.size, 3, none⟩) (Nat.lt_of_lt_of_le hz hb.size)).trans ((hb.cell (p := ⟨w.heap.size, 3, none⟩) hz).trans (by rw [blk_cell HK.out 3]; rfl))) (by omega)))
      rw [Q4.out] at CP
      clear x3 q4 hxx hmem
      rcases hprev.out with rfl | ⟨j, rfl, hj, y0⟩
      · clear hprev
        rw [Nat.zero_mul, show ad.add 0 = ad by simp [Addr.add]] at x0 x1
        go_wp2_with fail
        go_quiet (fail)
        go_wp2_with fail
        refine (CP.out _ (pw_below_drewN ((Below.refl _ _).alloc (Nat.le_refl _) _) _)).mono ?_
        rintro e w3 ⟨rfl, hb3⟩
        have hb4 := (pw_below_drewN ((Below.refl wr.heap.size wr).alloc (Nat.le_refl _) (.cells #[.int .i64 xl, .slice B1 xr.length c1] 39)) _).trans (hb3.mono (by simp))
        have HK4 : Hid (w3.heap[w.heap.size]? = some (.cells #[.int .i64 start, .int .i64 rules, .slice A2 l2.length c2, .slice A3 l3.length c3, .slice (some ad) l4.length c4] 26 (0, 0))) := (hb4.block _ (blk_lt HK.out)).trans HK.out
        have HB4 : Hid (Below w.heap.size w w3) := HB.out.trans (hb4.mono HB.out.size)
        clear hb3 hb4
        go_wp2_with fail
        go_roundw
        case rel => exact ⟨1, by omega, rfl, HK4, HB4⟩
        case measure => simp [intOf]; omega
      · clear hprev
        simp only at hj
        have hf1 : decide (xl < (rd_T39 l4 j).f0) = false := decide_eq_false (by omega)
        generalize (rd_T39 l4 j).f0 = pf at *
        go_wp2_with fail
        have e1 : IntKind.i64.wrap (((j + 1 : Nat) : Int) - 1) = (j : Int) := by rw [IntKind.wrap_i64]; omega
        have e2 : IntKind.i64.wrap ((j : Int) + 1 - 1) = (j : Int) := by rw [IntKind.wrap_i64]; omega
        have y1 : (wr.alloc (.cells #[.int .i64 xl, .slice B1 xr.length c1] 39)).cell? (ad.add (j * 2)) = some (.int .i64 pf) := pw_cell_below (below_alloc (Below.refl _ _) _) y0
        have e6 : IntKind.i64.wrap (j : Int) = (j : Int) := by rw [IntKind.wrap_i64]; omega
        have e3 : (0 : Int) ≤ (j : Int) := by omega
        have e4 : (j : Int) < (l4.length : Int) := by omega
        have e5 : decide (0 < (j : Int) + 1) = true := decide_eq_true (by omega)
        go_quiet (fail)
        clear e1 e2 e6 y0 y1
        go_wp2_with fail
        refine (CP.out _ (pw_below_drewN ((Below.refl _ _).alloc (Nat.le_refl _) _) _)).mono ?_
        rintro e w3 ⟨rfl, hb3⟩
        have hb4 := (pw_below_drewN ((Below.refl wr.heap.size wr).alloc (Nat.le_refl _) (.cells #[.int .i64 xl, .slice B1 xr.length c1] 39)) _).trans (hb3.mono (by simp))
        have HK4 : Hid (w3.heap[w.heap.size]? = some (.cells #[.int .i64 start, .int .i64 rules, .slice A2 l2.length c2, .slice A3 l3.length c3, .slice (some ad) l4.length c4] 26 (0, 0))) := (hb4.block _ (blk_lt HK.out)).trans HK.out
        have HB4 : Hid (Below w.heap.size w w3) := HB.out.trans (hb4.mono HB.out.size)
        clear hb3 hb4
        go_wp2_with fail
        go_roundw
        case rel => exact ⟨j + 1 + 1, by omega, by go_num, HK4, HB4⟩
        case measure => simp [intOf]; omega
    · obtain rfl : k = l4.length := by omega
      go_wp2
      go_ret
      exact ⟨rfl, HB.out⟩
end
end Go.Proofs.Ytnkpmogpmcggiaa
