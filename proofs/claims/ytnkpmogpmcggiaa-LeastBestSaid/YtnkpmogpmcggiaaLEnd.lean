/- The least end of a symbol. Laid by a program over the words of the print. -/
import Derived.Test.YtnkpmogpmcggiaaLKinds
import Derived.Test.YtnkpmogpmcggiaaLOf
namespace Go.Proofs.Ytnkpmogpmcggiaa
open Go.RowKit Go.Proofs.YtnkpmogpmcggiaaW.PrintWords Go.Proofs.YtnkpmogpmcggiaaW.PrintLast Go.Proofs.YtnkpmogpmcggiaaW.PrintMore
attribute [local go_sem] max2_int min2_int max_two min_two max_three min_three max_four min_four   -- for this text's walks alone
set_option linter.unusedVariables false
set_option linter.unusedSimpArgs false

/-! ### least_table_end: function 29 -/
def least_table_end.l0 : Nat → Int → Int → Int → List Int → Int → Int → Int → List ByteArray → List ByteArray → List (S39) → List Int → List (List (List Int)) → Option (Int × Int × Int)
  | 0, _, _, _, _, _, _, _, _, _, _, _, _ => none
  | k + 1, x1, x2, x3, x4, x11, x1000, x1001, x1002, x1003, x1004, x1005, x1006 => if x11 < (x4.length : Int) then ((least_table_of.f x1000 x1001 x1002 x1003 x1004 x1005 x1006 x1 x2 x11).bind fun bt185 => (if bt185.1 = (-1) then (least_table_end.l0 k x1 x2 x3 x4 (wrap64 (x11 + 1)) bt185.2.1 bt185.2.2 x1002 x1003 x1004 x1005 x1006) else (if 0 ≤ x11 then (if (rd x4 x11) = (-1) then (least_table_end.l0 k x1 x2 x3 x4 (wrap64 (x11 + 1)) bt185.2.1 bt185.2.2 x1002 x1003 x1004 x1005 x1006) else (if (wrap64 (bt185.1 + (rd x4 x11))) = x3 then (some (x11, bt185.2.1, bt185.2.2)) else (least_table_end.l0 k x1 x2 x3 x4 (wrap64 (x11 + 1)) bt185.2.1 bt185.2.2 x1002 x1003 x1004 x1005 x1006))) else (none)))) else (some (x2, x1000, x1001))
def least_table_end.f (k : Nat) (s0_0 : Int) (s0_1 : Int) (s0_2 : List ByteArray) (s0_3 : List ByteArray) (s0_4 : List (S39)) (s0_5 : List Int) (s0_6 : List (List (List Int))) (a1 : Int) (a2 : Int) (a3 : Int) (l4 : List Int) : Option (Int × Int × Int) := least_table_end.l0 k a1 a2 a3 l4 a2 s0_0 s0_1 s0_2 s0_3 s0_4 s0_5 s0_6
theorem least_table_end.mono_l : ∀ k, (∀ y0 y1 y2 y3 y4 y5 y6 y7 y8 y9 y10 y11, LeO (least_table_end.l0 k y0 y1 y2 y3 y4 y5 y6 y7 y8 y9 y10 y11) (least_table_end.l0 (k + 1) y0 y1 y2 y3 y4 y5 y6 y7 y8 y9 y10 y11))
  | 0 => fun _ _ _ _ _ _ _ _ _ _ _ _ r h => by simp [least_table_end.l0] at h
  | k + 1 => by
    have ih0 := least_table_end.mono_l k
    · intro y0 y1 y2 y3 y4 y5 y6 y7 y8 y9 y10 y11
      unfold least_table_end.l0
      repeat' first
      | (with_reducible exact ih0 _ _ _ _ _ _ _ _ _ _ _ _)
      | (with_reducible exact LeO.refl _)
      | (with_reducible exact LeO.none _)
      | (with_reducible refine LeO.ite ?_ ?_)
      | (with_reducible refine LeO.bind ?_ (fun _ => ?_))
      | exact ih0 _ _ _ _ _ _ _ _ _ _ _ _
      | exact LeO.none _
      | refine LeO.ite ?_ ?_
      | refine LeO.bind ?_ (fun _ => ?_)
theorem least_table_end.mono : ∀ a0 a1 a2 a3 a4 a5 a6 a7 a8 a9 a10 k, LeO (least_table_end.f k a0 a1 a2 a3 a4 a5 a6 a7 a8 a9 a10) (least_table_end.f (k + 1) a0 a1 a2 a3 a4 a5 a6 a7 a8 a9 a10) := by
  intro a0 a1 a2 a3 a4 a5 a6 a7 a8 a9 a10 k
  have ih0 := least_table_end.mono_l k
  unfold least_table_end.f
  repeat' first
      | (with_reducible exact ih0 _ _ _ _ _ _ _ _ _ _ _ _)
      | (with_reducible exact LeO.refl _)
      | (with_reducible exact LeO.none _)
      | (with_reducible refine LeO.ite ?_ ?_)
      | (with_reducible refine LeO.bind ?_ (fun _ => ?_))
      | exact ih0 _ _ _ _ _ _ _ _ _ _ _ _
      | exact LeO.none _
      | refine LeO.ite ?_ ?_
      | refine LeO.bind ?_ (fun _ => ?_)
set_option maxHeartbeats 8000000 in
set_option maxRecDepth 100000 in
theorem least_table_end.calls (k : Nat) (g : Nat) (s0_0 : Int) (s0_1 : Int) (s0_2 : List ByteArray) (s0_3 : List ByteArray) (s0_4 : List (S39)) (s0_5 : List Int) (s0_6 : List (List (List Int))) (a1 : Int) (a2 : Int) (a3 : Int) (A4 : Option Addr) (c4 : Nat) (l4 : List Int) (r1 : Int) (r2 : Int) (r3 : Int) (w0 w : World) (hI : IsS71 w0 w g s0_0 s0_1 s0_2 s0_3 s0_4 s0_5 s0_6) (hB : Below w0.heap.size w0 w) (hr4 : Kd.C (Kd.int .i64) w A4 l4.length l4) (hc4 : l4.length ≤ c4) (hf4 : ∀ ad, A4 = some ad → 0 < l4.length → ad.block ≠ g) (h : least_table_end.f k s0_0 s0_1 s0_2 s0_3 s0_4 s0_5 s0_6 a1 a2 a3 l4 = some (r1, r2, r3)) :
    Calls Try.prog 29 #[.pointer (some ⟨g, 0, none⟩), .int .i64 a1, .int .i64 a2, .int .i64 a3, .slice A4 l4.length c4] w fun e w' => e = .returned (.int .i64 r1) ∧ IsS71 w0 w' g r2 r3 s0_2 s0_3 s0_4 s0_5 s0_6 ∧ Below w0.heap.size w0 w' ∧ KeepBut w w' g none := by
  have HR4 := Aside0.mk hr4
  have HC4 := Aside0.mk hc4
  clear hr4 hc4
  have HI0 := Aside0.mk hI
  have HK := Aside0.mk (KeepBut.refl w g none)
  have HL := Aside0.mk hB.size
  clear hI
  have HW0 := Aside0.mk hB.size
  have HB := Aside0.mk hB
  clear hB
  have H : (least_table_end.l0 k a1 a2 a3 l4 a2 s0_0 s0_1 s0_2 s0_3 s0_4 s0_5 s0_6) = some (r1, r2, r3) := h
  clear h
  have H' := Aside0.mk H
  clear H
  go_enter Try.func29, Try.ntmps29
  go_wp2
  go_loopg [11] k (fun kq v11 w' => ∃ (x11_1 : Int) (x1000_1 : Int) (x1001_1 : Int), v11 = .int .i64 x11_1 ∧ Aside0 (least_table_end.l0 kq a1 a2 a3 l4 x11_1 x1000_1 x1001_1 s0_2 s0_3 s0_4 s0_5 s0_6 = some (r1, r2, r3)) ∧ Aside0 (kq ≤ k) ∧ Aside0 (IsS71 w0 w' g x1000_1 x1001_1 s0_2 s0_3 s0_4 s0_5 s0_6) ∧ Aside0 (KeepBut w w' g none) ∧ Aside0 (Below w0.heap.size w0 w'))
  case atStart => exact ⟨(a2), (s0_0), (s0_1), (by first | rfl | (simp; done) | (simp [*]; done)), H', ⟨Nat.le_refl _⟩, ⟨by repeat (first | (with_reducible first | exact HI0.out | apply IsS71.alloc | apply IsS71.drewN | apply IsS71.drew | apply IsS71.set_0 | apply IsS71.set_1) | exact HI0.out)⟩, ⟨by repeat (first | (with_reducible first | exact HK.out | apply KeepBut.set_ | apply keep_drewN | apply keep_drew | apply keep_alloc) | exact HK.out)⟩, ⟨by repeat (first | (with_reducible first | exact HB.out | apply below_alloc | apply pw_below_drewN | apply below_drew1 | refine below_set ?_ (IsS71.ge HI0.out)) | exact HB.out)⟩⟩
  case round =>
    clear H'
    try clear c2
    try clear p2
    try clear c4
    obtain ⟨x11_1, x1000_1, x1001_1, rfl, HA, HK1, HI0, HK, HB⟩ := hrel
    cases gk with
    | zero => exact absurd HA.out (by simp [least_table_end.l0])
    | succ k1 =>
      have H := HA.out
      clear HA
      simp only [least_table_end.l0] at H
      by_cases c6 : x11_1 < (l4.length : Int)
      · rw [if_pos c6] at H
        have c6b0 : decide (x11_1 < (l4.length : Int)) = true := decide_eq_true c6
        clear c6
        replace H := Option.bind_eq_some_iff.mp H
        obtain ⟨⟨t185, t186, t187⟩, A70, H⟩ := H
        replace H : (if t185 = (-1) then (least_table_end.l0 k1 a1 a2 a3 l4 (wrap64 (x11_1 + 1)) t186 t187 s0_2 s0_3 s0_4 s0_5 s0_6) else (if 0 ≤ x11_1 then (if (rd l4 x11_1) = (-1) then (least_table_end.l0 k1 a1 a2 a3 l4 (wrap64 (x11_1 + 1)) t186 t187 s0_2 s0_3 s0_4 s0_5 s0_6) else (if (wrap64 (t185 + (rd l4 x11_1))) = a3 then (some (x11_1, t186, t187)) else (least_table_end.l0 k1 a1 a2 a3 l4 (wrap64 (x11_1 + 1)) t186 t187 s0_2 s0_3 s0_4 s0_5 s0_6))) else (none))) = some (r1, r2, r3) := H
        have A7 := Aside0.mk A70
        clear A70
        by_cases c8 : t185 = (-1)
        · rw [if_pos c8] at H
          have c8b0 : (t185 == (-1)) = true := beq_iff_eq.mpr c8
          have c8b1 : (t185 != (-1)) = false := bne_eq_false_iff_eq.mpr c8
          clear c8
          have H' := Aside0.mk H
          clear H
          go_wp2_with (first | ((with_reducible refine gate_callee (f := 20) rfl ?_); refine goesL_ (some 24) rfl rfl Try.func20 (by kernel_rfl) rfl #[.pointer (some ⟨g, 0, none⟩), .int .i64 a1, .int .i64 a2, .int .i64 x11_1] rfl (by (try simp only [List.map_toArray, List.map_cons, List.map_nil]); first | done | rfl | (simp only [List.length_drop, List.length_take]; rfl)) ?_; (with_reducible refine (least_table_of.calls g x1000_1 x1001_1 s0_2 s0_3 s0_4 s0_5 s0_6 a1 a2 x11_1 t185 t186 t187 w0 _ ?side1 ?side2 A7.out).mono ?_); (case side1 => repeat (first | (with_reducible first | exact HI0.out | apply IsS71.alloc | apply IsS71.drewN | apply IsS71.drew | apply IsS71.set_0 | apply IsS71.set_1) | exact HI0.out)); (case side2 => repeat (first | (with_reducible first | exact HB.out | apply below_alloc | apply pw_below_drewN | apply below_drew1 | refine below_set ?_ (IsS71.ge HI0.out)) | exact HB.out)); rintro e w9 ⟨rfl, hi, hb, hk⟩; refine ⟨_, rfl, ?_⟩; have n0_ := Aside0.mk (KeepBut.trans (by repeat (first | (with_reducible first | exact HK.out | apply KeepBut.set_ | apply keep_drewN | apply keep_drew | apply keep_alloc) | exact HK.out)) hk (.inl rfl)); have n1_ := Aside0.mk (hb); have n2_ := Aside0.mk (hi); clear HK; clear HB; clear HI0; have HK := n0_; have HB := n1_; have HI0 := n2_; clear n0_ n1_ n2_; (try clear hb); (try clear hb2); (try clear hk); (try clear hi)))
          go_roundg k1
          case measure => have := HK1.out; omega
          case rel => exact ⟨(wrap64 (x11_1 + 1)), (t186), (t187), (by first | rfl | (simp; done) | (simp [*]; done)), H', ⟨by have := HK1.out; omega⟩, ⟨by repeat (first | (with_reducible first | exact HI0.out | apply IsS71.alloc | apply IsS71.drewN | apply IsS71.drew | apply IsS71.set_0 | apply IsS71.set_1) | exact HI0.out)⟩, ⟨by repeat (first | (with_reducible first | exact HK.out | apply KeepBut.set_ | apply keep_drewN | apply keep_drew | apply keep_alloc) | exact HK.out)⟩, ⟨by repeat (first | (with_reducible first | exact HB.out | apply below_alloc | apply pw_below_drewN | apply below_drew1 | refine below_set ?_ (IsS71.ge HI0.out)) | exact HB.out)⟩⟩
        · rw [if_neg c8] at H
          have c8b0 : (t185 == (-1)) = false := beq_eq_false_iff_ne.mpr c8
          have c8b1 : (t185 != (-1)) = true := bne_iff_ne.mpr c8
          by_cases c10 : 0 ≤ x11_1
          · rw [if_pos c10] at H
            have c10b0 : decide (0 ≤ x11_1) = true := decide_eq_true c10
            clear c10
            by_cases c11 : (rd l4 x11_1) = (-1)
            · rw [if_pos c11] at H
              have c11b0 : ((rd l4 x11_1) == (-1)) = true := beq_iff_eq.mpr c11
              have c11b1 : ((rd l4 x11_1) != (-1)) = false := bne_eq_false_iff_eq.mpr c11
              clear c11
              have H' := Aside0.mk H
              clear H
              go_wp2_with (first | ((with_reducible refine gate_callee (f := 20) rfl ?_); refine goesL_ (some 24) rfl rfl Try.func20 (by kernel_rfl) rfl #[.pointer (some ⟨g, 0, none⟩), .int .i64 a1, .int .i64 a2, .int .i64 x11_1] rfl (by (try simp only [List.map_toArray, List.map_cons, List.map_nil]); first | done | rfl | (simp only [List.length_drop, List.length_take]; rfl)) ?_; (with_reducible refine (least_table_of.calls g x1000_1 x1001_1 s0_2 s0_3 s0_4 s0_5 s0_6 a1 a2 x11_1 t185 t186 t187 w0 _ ?side1 ?side2 A7.out).mono ?_); (case side1 => repeat (first | (with_reducible first | exact HI0.out | apply IsS71.alloc | apply IsS71.drewN | apply IsS71.drew | apply IsS71.set_0 | apply IsS71.set_1) | exact HI0.out)); (case side2 => repeat (first | (with_reducible first | exact HB.out | apply below_alloc | apply pw_below_drewN | apply below_drew1 | refine below_set ?_ (IsS71.ge HI0.out)) | exact HB.out)); rintro e w12 ⟨rfl, hi, hb, hk⟩; refine ⟨_, rfl, ?_⟩; have n0_ := Aside0.mk (KeepBut.trans (by repeat (first | (with_reducible first | exact HK.out | apply KeepBut.set_ | apply keep_drewN | apply keep_drew | apply keep_alloc) | exact HK.out)) hk (.inl rfl)); have n1_ := Aside0.mk (hb); have n2_ := Aside0.mk (hi); clear HK; clear HB; clear HI0; have HK := n0_; have HB := n1_; have HI0 := n2_; clear n0_ n1_ n2_; (try clear hb); (try clear hb2); (try clear hk); (try clear hi); have p188 : 0 ≤ (x11_1 : Int) := of_decide_eq_true (by first | (with_reducible assumption) | assumption); have q188 : x11_1 < (l4.length : Int) := of_decide_eq_true (by first | (with_reducible assumption) | assumption); obtain ⟨ad188, e188, hx188_0⟩ := Kd.at_int HR4.out x11_1 p188 q188; cases e188; replace hx188_0 := keep_cell HK.out hx188_0 (by first | (rw [add_block]; exact hf4 _ rfl (by omega)) | exact hf4 _ rfl (by omega) | exact hf4 ad188 rfl (by omega)); replace p188 := eq_true p188; replace q188 := eq_true q188))
              go_roundg k1
              case measure => have := HK1.out; omega
              case rel => exact ⟨(wrap64 (x11_1 + 1)), (t186), (t187), (by first | rfl | (simp; done) | (simp [*]; done)), H', ⟨by have := HK1.out; omega⟩, ⟨by repeat (first | (with_reducible first | exact HI0.out | apply IsS71.alloc | apply IsS71.drewN | apply IsS71.drew | apply IsS71.set_0 | apply IsS71.set_1) | exact HI0.out)⟩, ⟨by repeat (first | (with_reducible first | exact HK.out | apply KeepBut.set_ | apply keep_drewN | apply keep_drew | apply keep_alloc) | exact HK.out)⟩, ⟨by repeat (first | (with_reducible first | exact HB.out | apply below_alloc | apply pw_below_drewN | apply below_drew1 | refine below_set ?_ (IsS71.ge HI0.out)) | exact HB.out)⟩⟩
            · rw [if_neg c11] at H
              have c11b0 : ((rd l4 x11_1) == (-1)) = false := beq_eq_false_iff_ne.mpr c11
              have c11b1 : ((rd l4 x11_1) != (-1)) = true := bne_iff_ne.mpr c11
              by_cases c13 : (wrap64 (t185 + (rd l4 x11_1))) = a3
              · rw [if_pos c13] at H
                have c13b0 : ((wrap64 (t185 + (rd l4 x11_1))) == a3) = true := beq_iff_eq.mpr c13
                have c13b1 : ((wrap64 (t185 + (rd l4 x11_1))) != a3) = false := bne_eq_false_iff_eq.mpr c13
                clear c13
                simp only [Option.some.injEq, Prod.mk.injEq] at H
                obtain ⟨rfl, rfl, rfl⟩ := H
                go_wp2_with (first | ((with_reducible refine gate_callee (f := 20) rfl ?_); refine goesL_ (some 24) rfl rfl Try.func20 (by kernel_rfl) rfl #[.pointer (some ⟨g, 0, none⟩), .int .i64 a1, .int .i64 a2, .int .i64 x11_1] rfl (by (try simp only [List.map_toArray, List.map_cons, List.map_nil]); first | done | rfl | (simp only [List.length_drop, List.length_take]; rfl)) ?_; (with_reducible refine (least_table_of.calls g x1000_1 x1001_1 s0_2 s0_3 s0_4 s0_5 s0_6 a1 a2 x11_1 t185 t186 t187 w0 _ ?side1 ?side2 A7.out).mono ?_); (case side1 => repeat (first | (with_reducible first | exact HI0.out | apply IsS71.alloc | apply IsS71.drewN | apply IsS71.drew | apply IsS71.set_0 | apply IsS71.set_1) | exact HI0.out)); (case side2 => repeat (first | (with_reducible first | exact HB.out | apply below_alloc | apply pw_below_drewN | apply below_drew1 | refine below_set ?_ (IsS71.ge HI0.out)) | exact HB.out)); rintro e w14 ⟨rfl, hi, hb, hk⟩; refine ⟨_, rfl, ?_⟩; have n0_ := Aside0.mk (KeepBut.trans (by repeat (first | (with_reducible first | exact HK.out | apply KeepBut.set_ | apply keep_drewN | apply keep_drew | apply keep_alloc) | exact HK.out)) hk (.inl rfl)); have n1_ := Aside0.mk (hb); have n2_ := Aside0.mk (hi); clear HK; clear HB; clear HI0; have HK := n0_; have HB := n1_; have HI0 := n2_; clear n0_ n1_ n2_; (try clear hb); (try clear hb2); (try clear hk); (try clear hi); have p188 : 0 ≤ (x11_1 : Int) := of_decide_eq_true (by first | (with_reducible assumption) | assumption); have q188 : x11_1 < (l4.length : Int) := of_decide_eq_true (by first | (with_reducible assumption) | assumption); obtain ⟨ad188, e188, hx188_0⟩ := Kd.at_int HR4.out x11_1 p188 q188; cases e188; replace hx188_0 := keep_cell HK.out hx188_0 (by first | (rw [add_block]; exact hf4 _ rfl (by omega)) | exact hf4 _ rfl (by omega) | exact hf4 ad188 rfl (by omega)); replace p188 := eq_true p188; replace q188 := eq_true q188; have p189 : 0 ≤ (x11_1 : Int) := of_decide_eq_true (by first | (with_reducible assumption) | assumption); have q189 : x11_1 < (l4.length : Int) := of_decide_eq_true (by first | (with_reducible assumption) | assumption); obtain ⟨ad189, e189, hx189_0⟩ := Kd.at_int HR4.out x11_1 p189 q189; obtain rfl : ad188 = ad189 := (by injection e189); replace hx189_0 := keep_cell HK.out hx189_0 (by first | (rw [add_block]; exact hf4 _ rfl (by omega)) | exact hf4 _ rfl (by omega) | exact hf4 ad188 rfl (by omega)); replace p189 := eq_true p189; replace q189 := eq_true q189))
                go_ret
                exact ⟨by first | rfl | (simp [errW_none, errW_some] <;> rfl) | (simp [*, errW_none, errW_some] <;> rfl), by repeat (first | (with_reducible first | exact HI0.out | apply IsS71.alloc | apply IsS71.drewN | apply IsS71.drew | apply IsS71.set_0 | apply IsS71.set_1) | exact HI0.out), by repeat (first | (with_reducible first | exact HB.out | apply below_alloc | apply pw_below_drewN | apply below_drew1 | refine below_set ?_ (IsS71.ge HI0.out)) | exact HB.out), by repeat (first | (with_reducible first | exact HK.out | apply KeepBut.set_ | apply keep_drewN | apply keep_drew | apply keep_alloc) | exact HK.out)⟩
              · rw [if_neg c13] at H
                have c13b0 : ((wrap64 (t185 + (rd l4 x11_1))) == a3) = false := beq_eq_false_iff_ne.mpr c13
                have c13b1 : ((wrap64 (t185 + (rd l4 x11_1))) != a3) = true := bne_iff_ne.mpr c13
                have H' := Aside0.mk H
                clear H
                go_wp2_with (first | ((with_reducible refine gate_callee (f := 20) rfl ?_); refine goesL_ (some 24) rfl rfl Try.func20 (by kernel_rfl) rfl #[.pointer (some ⟨g, 0, none⟩), .int .i64 a1, .int .i64 a2, .int .i64 x11_1] rfl (by (try simp only [List.map_toArray, List.map_cons, List.map_nil]); first | done | rfl | (simp only [List.length_drop, List.length_take]; rfl)) ?_; (with_reducible refine (least_table_of.calls g x1000_1 x1001_1 s0_2 s0_3 s0_4 s0_5 s0_6 a1 a2 x11_1 t185 t186 t187 w0 _ ?side1 ?side2 A7.out).mono ?_); (case side1 => repeat (first | (with_reducible first | exact HI0.out | apply IsS71.alloc | apply IsS71.drewN | apply IsS71.drew | apply IsS71.set_0 | apply IsS71.set_1) | exact HI0.out)); (case side2 => repeat (first | (with_reducible first | exact HB.out | apply below_alloc | apply pw_below_drewN | apply below_drew1 | refine below_set ?_ (IsS71.ge HI0.out)) | exact HB.out)); rintro e w15 ⟨rfl, hi, hb, hk⟩; refine ⟨_, rfl, ?_⟩; have n0_ := Aside0.mk (KeepBut.trans (by repeat (first | (with_reducible first | exact HK.out | apply KeepBut.set_ | apply keep_drewN | apply keep_drew | apply keep_alloc) | exact HK.out)) hk (.inl rfl)); have n1_ := Aside0.mk (hb); have n2_ := Aside0.mk (hi); clear HK; clear HB; clear HI0; have HK := n0_; have HB := n1_; have HI0 := n2_; clear n0_ n1_ n2_; (try clear hb); (try clear hb2); (try clear hk); (try clear hi); have p188 : 0 ≤ (x11_1 : Int) := of_decide_eq_true (by first | (with_reducible assumption) | assumption); have q188 : x11_1 < (l4.length : Int) := of_decide_eq_true (by first | (with_reducible assumption) | assumption); obtain ⟨ad188, e188, hx188_0⟩ := Kd.at_int HR4.out x11_1 p188 q188; cases e188; replace hx188_0 := keep_cell HK.out hx188_0 (by first | (rw [add_block]; exact hf4 _ rfl (by omega)) | exact hf4 _ rfl (by omega) | exact hf4 ad188 rfl (by omega)); replace p188 := eq_true p188; replace q188 := eq_true q188; have p189 : 0 ≤ (x11_1 : Int) := of_decide_eq_true (by first | (with_reducible assumption) | assumption); have q189 : x11_1 < (l4.length : Int) := of_decide_eq_true (by first | (with_reducible assumption) | assumption); obtain ⟨ad189, e189, hx189_0⟩ := Kd.at_int HR4.out x11_1 p189 q189; obtain rfl : ad188 = ad189 := (by injection e189); replace hx189_0 := keep_cell HK.out hx189_0 (by first | (rw [add_block]; exact hf4 _ rfl (by omega)) | exact hf4 _ rfl (by omega) | exact hf4 ad188 rfl (by omega)); replace p189 := eq_true p189; replace q189 := eq_true q189))
                go_roundg k1
                case measure => have := HK1.out; omega
                case rel => exact ⟨(wrap64 (x11_1 + 1)), (t186), (t187), (by first | rfl | (simp; done) | (simp [*]; done)), H', ⟨by have := HK1.out; omega⟩, ⟨by repeat (first | (with_reducible first | exact HI0.out | apply IsS71.alloc | apply IsS71.drewN | apply IsS71.drew | apply IsS71.set_0 | apply IsS71.set_1) | exact HI0.out)⟩, ⟨by repeat (first | (with_reducible first | exact HK.out | apply KeepBut.set_ | apply keep_drewN | apply keep_drew | apply keep_alloc) | exact HK.out)⟩, ⟨by repeat (first | (with_reducible first | exact HB.out | apply below_alloc | apply pw_below_drewN | apply below_drew1 | refine below_set ?_ (IsS71.ge HI0.out)) | exact HB.out)⟩⟩
          · rw [if_neg c10] at H
            exact absurd H (by simp)
      · rw [if_neg c6] at H
        have c6b0 : decide (x11_1 < (l4.length : Int)) = false := decide_eq_false c6
        clear c6
        simp only [Option.some.injEq, Prod.mk.injEq] at H
        obtain ⟨rfl, rfl, rfl⟩ := H
        go_wp2
        go_ret
        exact ⟨by first | rfl | (simp [errW_none, errW_some] <;> rfl) | (simp [*, errW_none, errW_some] <;> rfl), by repeat (first | (with_reducible first | exact HI0.out | apply IsS71.alloc | apply IsS71.drewN | apply IsS71.drew | apply IsS71.set_0 | apply IsS71.set_1) | exact HI0.out), by repeat (first | (with_reducible first | exact HB.out | apply below_alloc | apply pw_below_drewN | apply below_drew1 | refine below_set ?_ (IsS71.ge HI0.out)) | exact HB.out), by repeat (first | (with_reducible first | exact HK.out | apply KeepBut.set_ | apply keep_drewN | apply keep_drew | apply keep_alloc) | exact HK.out)⟩

-- NOT PRINTED: function 21 (least_table_tree)

-- NOT PRINTED: function 9 (least_Tree)

-- NOT PRINTED: function 10 (least_Nodes)

-- NOT PRINTED: function 7 (primerlaw15_speaks)

-- NOT PRINTED: function 3 (primerlaw15_LeastRefuses)

end Go.Proofs.Ytnkpmogpmcggiaa
