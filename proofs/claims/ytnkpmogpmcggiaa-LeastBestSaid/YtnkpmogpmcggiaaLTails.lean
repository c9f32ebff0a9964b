/- The tails of a right side. Laid by a program over the words of the print. -/
import Derived.Test.YtnkpmogpmcggiaaLKinds
import Derived.Test.YtnkpmogpmcggiaaLOf
import Derived.Test.YtnkpmogpmcggiaaLRepeat
namespace Go.Proofs.Ytnkpmogpmcggiaa
open Go.RowKit Go.Proofs.YtnkpmogpmcggiaaW.PrintWords Go.Proofs.YtnkpmogpmcggiaaW.PrintLast Go.Proofs.YtnkpmogpmcggiaaW.PrintMore
attribute [local go_sem] max2_int min2_int max_two min_two max_three min_three max_four min_four   -- for this text's walks alone
set_option linter.unusedVariables false
set_option linter.unusedSimpArgs false

/-! ### least_table_tails: function 28 -/
mutual
def least_table_tails.l0 : Nat → List Int → Int → Int → List (List Int) → Int → Int → Int → Int → List ByteArray → List ByteArray → List (S39) → List Int → List (List (List Int)) → Option ((List (List Int)) × Int × Int)
  | 0, _, _, _, _, _, _, _, _, _, _, _, _, _ => none
  | k + 1, x1, x2, x3, x9, x23, x24, x1000, x1001, x1002, x1003, x1004, x1005, x1006 => if x24 < x23 then ((slices_Repeat_int_int.f (([(-1)] : List Int)) (wrap64 (x3 + 1))).bind fun t137 => (if 0 ≤ x24 then (if x24 < (x9.length : Int) then (least_table_tails.l0 k x1 x2 x3 (x9.set (x24 : Int).toNat t137) x23 (wrap64 (x24 + 1)) x1000 x1001 x1002 x1003 x1004 x1005 x1006) else (none)) else (none))) else (if 0 ≤ (x1.length : Int) then (if (x1.length : Int) < (x9.length : Int) then (if 0 ≤ x3 then (if x3 < ((rd_L2 x9 (x1.length : Int)).length : Int) then (least_table_tails.l1 k x1 x2 x3 (x9.set ((x1.length : Int) : Int).toNat ((rd_L2 x9 (x1.length : Int)).set (x3 : Int).toNat 0)) (wrap64 ((x1.length : Int) - 1)) x1000 x1001 x1002 x1003 x1004 x1005 x1006) else (none)) else (none)) else (none)) else (none))
def least_table_tails.l1 : Nat → List Int → Int → Int → List (List Int) → Int → Int → Int → List ByteArray → List ByteArray → List (S39) → List Int → List (List (List Int)) → Option ((List (List Int)) × Int × Int)
  | 0, _, _, _, _, _, _, _, _, _, _, _, _ => none
  | k + 1, x1, x2, x3, x9, x11, x1000, x1001, x1002, x1003, x1004, x1005, x1006 => if x11 ≥ 0 then (least_table_tails.l2 k x1 x2 x3 x9 x11 x2 x1000 x1001 x1002 x1003 x1004 x1005 x1006) else (some (x9, x1000, x1001))
def least_table_tails.l2 : Nat → List Int → Int → Int → List (List Int) → Int → Int → Int → Int → List ByteArray → List ByteArray → List (S39) → List Int → List (List (List Int)) → Option ((List (List Int)) × Int × Int)
  | 0, _, _, _, _, _, _, _, _, _, _, _, _, _ => none
  | k + 1, x1, x2, x3, x9, x11, x12, x1000, x1001, x1002, x1003, x1004, x1005, x1006 => if x12 ≤ x3 then (least_table_tails.l3 k x1 x2 x3 x9 x11 x12 (-1) x12 x1000 x1001 x1002 x1003 x1004 x1005 x1006) else (least_table_tails.l1 k x1 x2 x3 x9 (wrap64 (x11 - 1)) x1000 x1001 x1002 x1003 x1004 x1005 x1006)
def least_table_tails.l3 : Nat → List Int → Int → Int → List (List Int) → Int → Int → Int → Int → Int → Int → List ByteArray → List ByteArray → List (S39) → List Int → List (List (List Int)) → Option ((List (List Int)) × Int × Int)
  | 0, _, _, _, _, _, _, _, _, _, _, _, _, _, _, _ => none
  | k + 1, x1, x2, x3, x9, x11, x12, x13, x14, x1000, x1001, x1002, x1003, x1004, x1005, x1006 => if x14 ≤ x3 then (if 0 ≤ (wrap64 (x11 + 1)) then (if (wrap64 (x11 + 1)) < (x9.length : Int) then (if 0 ≤ x14 then (if x14 < ((rd_L2 x9 (wrap64 (x11 + 1))).length : Int) then (if (rd (rd_L2 x9 (wrap64 (x11 + 1))) x14) = (-1) then (least_table_tails.j4 k x1 x2 x3 x9 x11 x12 x13 x14 (rd (rd_L2 x9 (wrap64 (x11 + 1))) x14) (-1) x1000 x1001 x1002 x1003 x1004 x1005 x1006) else (if 0 ≤ x11 then (if x11 < (x1.length : Int) then ((least_table_of.f x1000 x1001 x1002 x1003 x1004 x1005 x1006 (rd x1 x11) x12 x14).bind fun bt152 => (least_table_tails.j4 k x1 x2 x3 x9 x11 x12 x13 x14 (rd (rd_L2 x9 (wrap64 (x11 + 1))) x14) bt152.1 bt152.2.1 bt152.2.2 x1002 x1003 x1004 x1005 x1006)) else (none)) else (none))) else (none)) else (none)) else (none)) else (none)) else (if 0 ≤ x11 then (if x11 < (x9.length : Int) then (if 0 ≤ x12 then (if x12 < ((rd_L2 x9 x11).length : Int) then (least_table_tails.l2 k x1 x2 x3 (x9.set (x11 : Int).toNat ((rd_L2 x9 x11).set (x12 : Int).toNat x13)) x11 (wrap64 (x12 + 1)) x1000 x1001 x1002 x1003 x1004 x1005 x1006) else (none)) else (none)) else (none)) else (none))
def least_table_tails.j4 : Nat → List Int → Int → Int → List (List Int) → Int → Int → Int → Int → Int → Int → Int → Int → List ByteArray → List ByteArray → List (S39) → List Int → List (List (List Int)) → Option ((List (List Int)) × Int × Int)
  | 0, _, _, _, _, _, _, _, _, _, _, _, _, _, _, _, _, _ => none
  | k + 1, x1, x2, x3, x9, x11, x12, x13, x14, x15, x16, x1000, x1001, x1002, x1003, x1004, x1005, x1006 => if x16 = (-1) then (least_table_tails.l3 k x1 x2 x3 x9 x11 x12 x13 (wrap64 (x14 + 1)) x1000 x1001 x1002 x1003 x1004 x1005 x1006) else (if x13 = (-1) then (least_table_tails.l3 k x1 x2 x3 x9 x11 x12 (mn (wrap64 (x16 + x15)) 1099511627776) (wrap64 (x14 + 1)) x1000 x1001 x1002 x1003 x1004 x1005 x1006) else (if (mn (wrap64 (x16 + x15)) 1099511627776) < x13 then (least_table_tails.l3 k x1 x2 x3 x9 x11 x12 (mn (wrap64 (x16 + x15)) 1099511627776) (wrap64 (x14 + 1)) x1000 x1001 x1002 x1003 x1004 x1005 x1006) else (least_table_tails.l3 k x1 x2 x3 x9 x11 x12 x13 (wrap64 (x14 + 1)) x1000 x1001 x1002 x1003 x1004 x1005 x1006)))
end
def least_table_tails.f (k : Nat) (s0_0 : Int) (s0_1 : Int) (s0_2 : List ByteArray) (s0_3 : List ByteArray) (s0_4 : List (S39)) (s0_5 : List Int) (s0_6 : List (List (List Int))) (l1 : List Int) (a2 : Int) (a3 : Int) : Option ((List (List Int)) × Int × Int) := if 0 ≤ (wrap64 ((l1.length : Int) + 1)) then (if (wrap64 ((l1.length : Int) + 1) : Int).toNat ≤ 11728124029610 then ((some (List.replicate (wrap64 ((l1.length : Int) + 1) : Int).toNat [] : List (List Int))).bind fun y131 => (least_table_tails.l0 k l1 a2 a3 y131 (y131.length : Int) 0 s0_0 s0_1 s0_2 s0_3 s0_4 s0_5 s0_6)) else (none)) else (none)
theorem least_table_tails.mono_l : ∀ k, (∀ y0 y1 y2 y3 y4 y5 y6 y7 y8 y9 y10 y11 y12, LeO (least_table_tails.l0 k y0 y1 y2 y3 y4 y5 y6 y7 y8 y9 y10 y11 y12) (least_table_tails.l0 (k + 1) y0 y1 y2 y3 y4 y5 y6 y7 y8 y9 y10 y11 y12)) ∧ (∀ y0 y1 y2 y3 y4 y5 y6 y7 y8 y9 y10 y11, LeO (least_table_tails.l1 k y0 y1 y2 y3 y4 y5 y6 y7 y8 y9 y10 y11) (least_table_tails.l1 (k + 1) y0 y1 y2 y3 y4 y5 y6 y7 y8 y9 y10 y11)) ∧ (∀ y0 y1 y2 y3 y4 y5 y6 y7 y8 y9 y10 y11 y12, LeO (least_table_tails.l2 k y0 y1 y2 y3 y4 y5 y6 y7 y8 y9 y10 y11 y12) (least_table_tails.l2 (k + 1) y0 y1 y2 y3 y4 y5 y6 y7 y8 y9 y10 y11 y12)) ∧ (∀ y0 y1 y2 y3 y4 y5 y6 y7 y8 y9 y10 y11 y12 y13 y14, LeO (least_table_tails.l3 k y0 y1 y2 y3 y4 y5 y6 y7 y8 y9 y10 y11 y12 y13 y14) (least_table_tails.l3 (k + 1) y0 y1 y2 y3 y4 y5 y6 y7 y8 y9 y10 y11 y12 y13 y14)) ∧ (∀ y0 y1 y2 y3 y4 y5 y6 y7 y8 y9 y10 y11 y12 y13 y14 y15 y16, LeO (least_table_tails.j4 k y0 y1 y2 y3 y4 y5 y6 y7 y8 y9 y10 y11 y12 y13 y14 y15 y16) (least_table_tails.j4 (k + 1) y0 y1 y2 y3 y4 y5 y6 y7 y8 y9 y10 y11 y12 y13 y14 y15 y16))
  | 0 => ⟨fun _ _ _ _ _ _ _ _ _ _ _ _ _ r h => by simp [least_table_tails.l0] at h, fun _ _ _ _ _ _ _ _ _ _ _ _ r h => by simp [least_table_tails.l1] at h, fun _ _ _ _ _ _ _ _ _ _ _ _ _ r h => by simp [least_table_tails.l2] at h, fun _ _ _ _ _ _ _ _ _ _ _ _ _ _ _ r h => by simp [least_table_tails.l3] at h, fun _ _ _ _ _ _ _ _ _ _ _ _ _ _ _ _ _ r h => by simp [least_table_tails.j4] at h⟩
  | k + 1 => by
    obtain ⟨ih0, ih1, ih2, ih3, ih4⟩ := least_table_tails.mono_l k
    refine ⟨?_, ?_, ?_, ?_, ?_⟩
    · intro y0 y1 y2 y3 y4 y5 y6 y7 y8 y9 y10 y11 y12
      unfold least_table_tails.l0
      repeat' first
      | (with_reducible exact ih0 _ _ _ _ _ _ _ _ _ _ _ _ _)
      | (with_reducible exact ih1 _ _ _ _ _ _ _ _ _ _ _ _)
      | (with_reducible exact ih2 _ _ _ _ _ _ _ _ _ _ _ _ _)
      | (with_reducible exact ih3 _ _ _ _ _ _ _ _ _ _ _ _ _ _ _)
      | (with_reducible exact ih4 _ _ _ _ _ _ _ _ _ _ _ _ _ _ _ _ _)
      | (with_reducible exact LeO.refl _)
      | (with_reducible exact LeO.none _)
      | (with_reducible refine LeO.ite ?_ ?_)
      | (with_reducible refine LeO.bind ?_ (fun _ => ?_))
      | exact ih0 _ _ _ _ _ _ _ _ _ _ _ _ _
      | exact ih1 _ _ _ _ _ _ _ _ _ _ _ _
      | exact ih2 _ _ _ _ _ _ _ _ _ _ _ _ _
      | exact ih3 _ _ _ _ _ _ _ _ _ _ _ _ _ _ _
      | exact ih4 _ _ _ _ _ _ _ _ _ _ _ _ _ _ _ _ _
      | exact LeO.none _
      | refine LeO.ite ?_ ?_
      | refine LeO.bind ?_ (fun _ => ?_)
    · intro y0 y1 y2 y3 y4 y5 y6 y7 y8 y9 y10 y11
      unfold least_table_tails.l1
      repeat' first
      | (with_reducible exact ih0 _ _ _ _ _ _ _ _ _ _ _ _ _)
      | (with_reducible exact ih1 _ _ _ _ _ _ _ _ _ _ _ _)
      | (with_reducible exact ih2 _ _ _ _ _ _ _ _ _ _ _ _ _)
      | (with_reducible exact ih3 _ _ _ _ _ _ _ _ _ _ _ _ _ _ _)
      | (with_reducible exact ih4 _ _ _ _ _ _ _ _ _ _ _ _ _ _ _ _ _)
      | (with_reducible exact LeO.refl _)
      | (with_reducible exact LeO.none _)
      | (with_reducible refine LeO.ite ?_ ?_)
      | (with_reducible refine LeO.bind ?_ (fun _ => ?_))
      | exact ih0 _ _ _ _ _ _ _ _ _ _ _ _ _
      | exact ih1 _ _ _ _ _ _ _ _ _ _ _ _
      | exact ih2 _ _ _ _ _ _ _ _ _ _ _ _ _
      | exact ih3 _ _ _ _ _ _ _ _ _ _ _ _ _ _ _
      | exact ih4 _ _ _ _ _ _ _ _ _ _ _ _ _ _ _ _ _
      | exact LeO.none _
      | refine LeO.ite ?_ ?_
      | refine LeO.bind ?_ (fun _ => ?_)
    · intro y0 y1 y2 y3 y4 y5 y6 y7 y8 y9 y10 y11 y12
      unfold least_table_tails.l2
      repeat' first
      | (with_reducible exact ih0 _ _ _ _ _ _ _ _ _ _ _ _ _)
      | (with_reducible exact ih1 _ _ _ _ _ _ _ _ _ _ _ _)
      | (with_reducible exact ih2 _ _ _ _ _ _ _ _ _ _ _ _ _)
      | (with_reducible exact ih3 _ _ _ _ _ _ _ _ _ _ _ _ _ _ _)
      | (with_reducible exact ih4 _ _ _ _ _ _ _ _ _ _ _ _ _ _ _ _ _)
      | (with_reducible exact LeO.refl _)
      | (with_reducible exact LeO.none _)
      | (with_reducible refine LeO.ite ?_ ?_)
      | (with_reducible refine LeO.bind ?_ (fun _ => ?_))
      | exact ih0 _ _ _ _ _ _ _ _ _ _ _ _ _
      | exact ih1 _ _ _ _ _ _ _ _ _ _ _ _
      | exact ih2 _ _ _ _ _ _ _ _ _ _ _ _ _
      | exact ih3 _ _ _ _ _ _ _ _ _ _ _ _ _ _ _
      | exact ih4 _ _ _ _ _ _ _ _ _ _ _ _ _ _ _ _ _
      | exact LeO.none _
      | refine LeO.ite ?_ ?_
      | refine LeO.bind ?_ (fun _ => ?_)
    · intro y0 y1 y2 y3 y4 y5 y6 y7 y8 y9 y10 y11 y12 y13 y14
      unfold least_table_tails.l3
      repeat' first
      | (with_reducible exact ih0 _ _ _ _ _ _ _ _ _ _ _ _ _)
      | (with_reducible exact ih1 _ _ _ _ _ _ _ _ _ _ _ _)
      | (with_reducible exact ih2 _ _ _ _ _ _ _ _ _ _ _ _ _)
      | (with_reducible exact ih3 _ _ _ _ _ _ _ _ _ _ _ _ _ _ _)
      | (with_reducible exact ih4 _ _ _ _ _ _ _ _ _ _ _ _ _ _ _ _ _)
      | (with_reducible exact LeO.refl _)
      | (with_reducible exact LeO.none _)
      | (with_reducible refine LeO.ite ?_ ?_)
      | (with_reducible refine LeO.bind ?_ (fun _ => ?_))
      | exact ih0 _ _ _ _ _ _ _ _ _ _ _ _ _
      | exact ih1 _ _ _ _ _ _ _ _ _ _ _ _
      | exact ih2 _ _ _ _ _ _ _ _ _ _ _ _ _
      | exact ih3 _ _ _ _ _ _ _ _ _ _ _ _ _ _ _
      | exact ih4 _ _ _ _ _ _ _ _ _ _ _ _ _ _ _ _ _
      | exact LeO.none _
      | refine LeO.ite ?_ ?_
      | refine LeO.bind ?_ (fun _ => ?_)
    · intro y0 y1 y2 y3 y4 y5 y6 y7 y8 y9 y10 y11 y12 y13 y14 y15 y16
      unfold least_table_tails.j4
      repeat' first
      | (with_reducible exact ih0 _ _ _ _ _ _ _ _ _ _ _ _ _)
      | (with_reducible exact ih1 _ _ _ _ _ _ _ _ _ _ _ _)
      | (with_reducible exact ih2 _ _ _ _ _ _ _ _ _ _ _ _ _)
      | (with_reducible exact ih3 _ _ _ _ _ _ _ _ _ _ _ _ _ _ _)
      | (with_reducible exact ih4 _ _ _ _ _ _ _ _ _ _ _ _ _ _ _ _ _)
      | (with_reducible exact LeO.refl _)
      | (with_reducible exact LeO.none _)
      | (with_reducible refine LeO.ite ?_ ?_)
      | (with_reducible refine LeO.bind ?_ (fun _ => ?_))
      | exact ih0 _ _ _ _ _ _ _ _ _ _ _ _ _
      | exact ih1 _ _ _ _ _ _ _ _ _ _ _ _
      | exact ih2 _ _ _ _ _ _ _ _ _ _ _ _ _
      | exact ih3 _ _ _ _ _ _ _ _ _ _ _ _ _ _ _
      | exact ih4 _ _ _ _ _ _ _ _ _ _ _ _ _ _ _ _ _
      | exact LeO.none _
      | refine LeO.ite ?_ ?_
      | refine LeO.bind ?_ (fun _ => ?_)
theorem least_table_tails.mono : ∀ a0 a1 a2 a3 a4 a5 a6 a7 a8 a9 k, LeO (least_table_tails.f k a0 a1 a2 a3 a4 a5 a6 a7 a8 a9) (least_table_tails.f (k + 1) a0 a1 a2 a3 a4 a5 a6 a7 a8 a9) := by
  intro a0 a1 a2 a3 a4 a5 a6 a7 a8 a9 k
  obtain ⟨ih0, ih1, ih2, ih3, ih4⟩ := least_table_tails.mono_l k
  unfold least_table_tails.f
  repeat' first
      | (with_reducible exact ih0 _ _ _ _ _ _ _ _ _ _ _ _ _)
      | (with_reducible exact ih1 _ _ _ _ _ _ _ _ _ _ _ _)
      | (with_reducible exact ih2 _ _ _ _ _ _ _ _ _ _ _ _ _)
      | (with_reducible exact ih3 _ _ _ _ _ _ _ _ _ _ _ _ _ _ _)
      | (with_reducible exact ih4 _ _ _ _ _ _ _ _ _ _ _ _ _ _ _ _ _)
      | (with_reducible exact LeO.refl _)
      | (with_reducible exact LeO.none _)
      | (with_reducible refine LeO.ite ?_ ?_)
      | (with_reducible refine LeO.bind ?_ (fun _ => ?_))
      | exact ih0 _ _ _ _ _ _ _ _ _ _ _ _ _
      | exact ih1 _ _ _ _ _ _ _ _ _ _ _ _
      | exact ih2 _ _ _ _ _ _ _ _ _ _ _ _ _
      | exact ih3 _ _ _ _ _ _ _ _ _ _ _ _ _ _ _
      | exact ih4 _ _ _ _ _ _ _ _ _ _ _ _ _ _ _ _ _
      | exact LeO.none _
      | refine LeO.ite ?_ ?_
      | refine LeO.bind ?_ (fun _ => ?_)
set_option maxHeartbeats 8000000 in
set_option maxRecDepth 100000 in
theorem least_table_tails.calls (k : Nat) (g : Nat) (s0_0 : Int) (s0_1 : Int) (s0_2 : List ByteArray) (s0_3 : List ByteArray) (s0_4 : List (S39)) (s0_5 : List Int) (s0_6 : List (List (List Int))) (A1 : Option Addr) (c1 : Nat) (l1 : List Int) (a2 : Int) (a3 : Int) (r1 : List (List Int)) (r2 : Int) (r3 : Int) (w0 w : World) (hI : IsS71 w0 w g s0_0 s0_1 s0_2 s0_3 s0_4 s0_5 s0_6) (hB : Below w0.heap.size w0 w) (hr1 : Kd.C (Kd.int .i64) w A1 l1.length l1) (hc1 : l1.length ≤ c1) (hf1 : ∀ ad, A1 = some ad → 0 < l1.length → ad.block ≠ g) (h : least_table_tails.f k s0_0 s0_1 s0_2 s0_3 s0_4 s0_5 s0_6 l1 a2 a3 = some (r1, r2, r3)) :
    Calls Try.prog 28 #[.pointer (some ⟨g, 0, none⟩), .slice A1 l1.length c1, .int .i64 a2, .int .i64 a3] w fun e w' => ∃ v0_ : Value, e = .returned (v0_) ∧ Kd.S (Kd.slice 3 (Kd.int .i64)) 34 w' w.heap.size (fun _ => True) v0_ r1 ∧ IsS71 w0 w' g r2 r3 s0_2 s0_3 s0_4 s0_5 s0_6 ∧ Below w0.heap.size w0 w' ∧ KeepBut w w' g none := by
  have HR1 := Aside0.mk hr1
  have HC1 := Aside0.mk hc1
  clear hr1 hc1
  have HI0 := Aside0.mk hI
  have HK := Aside0.mk (KeepBut.refl w g none)
  have HL := Aside0.mk hB.size
  clear hI
  have HW0 := Aside0.mk hB.size
  have HB := Aside0.mk hB
  clear hB
  have H : (if 0 ≤ (wrap64 ((l1.length : Int) + 1)) then (if (wrap64 ((l1.length : Int) + 1) : Int).toNat ≤ 11728124029610 then ((some (List.replicate (wrap64 ((l1.length : Int) + 1) : Int).toNat [] : List (List Int))).bind fun y131 => (least_table_tails.l0 k l1 a2 a3 y131 (y131.length : Int) 0 s0_0 s0_1 s0_2 s0_3 s0_4 s0_5 s0_6)) else (none)) else (none)) = some (r1, r2, r3) := h
  clear h
  obtain ⟨ji5, hji5⟩ : ∃ j_ : Int, (wrap64 ((l1.length : Int) + 1)) = j_ := ⟨_, rfl⟩
  replace H : (if 0 ≤ (ji5) then (if (ji5 : Int).toNat ≤ 11728124029610 then ((some (List.replicate (ji5 : Int).toNat [] : List (List Int))).bind fun y131 => (least_table_tails.l0 k l1 a2 a3 y131 (y131.length : Int) 0 s0_0 s0_1 s0_2 s0_3 s0_4 s0_5 s0_6)) else (none)) else (none)) = some (r1, r2, r3) := by first | (rw [hji5] at H; exact H) | (simp only [hji5] at H ⊢; exact H)
  have hji5w : (IntKind.i64.wrap ((l1.length : Int) + 1)) = ji5 := (i64_w _).trans hji5
  by_cases c6 : 0 ≤ (ji5)
  · rw [if_pos c6] at H
    have c6b0 := eq_true c6
    have c6b1 : decide (0 ≤ (ji5)) = true := decide_eq_true c6
    clear c6
    by_cases c7 : (ji5 : Int).toNat ≤ 11728124029610
    · rw [if_pos c7] at H
      have c7b0 := eq_true c7
      have c7b1 : decide ((ji5 : Int).toNat ≤ 11728124029610) = true := decide_eq_true c7
      clear c7
      obtain ⟨y131, hy131⟩ : ∃ y_ : List (List Int), y_ = (List.replicate (ji5 : Int).toNat []) := ⟨_, rfl⟩
      replace H : (least_table_tails.l0 k l1 a2 a3 y131 (y131.length : Int) 0 s0_0 s0_1 s0_2 s0_3 s0_4 s0_5 s0_6) = some (r1, r2, r3) := by first | (rw [hy131]; with_reducible exact H) | (have H2_ := (Option.bind_some _ _).symm.trans H; rw [hy131]; with_reducible exact H2_) | (have H2_ := (Option.bind_some _ _).symm.trans H; with_reducible exact H2_) | with_reducible exact H | (rw [hy131]; exact H) | exact H
      have Ny131 := Aside0.mk hy131
      clear hy131
      have H' := Aside0.mk H
      clear H
      go_enter Try.func28, Try.ntmps28
      go_wp2_with (first | ((with_reducible refine gate_dst (N := 21) rfl ?_); refine Kd.S_make (Kd.slice 3 (Kd.int .i64)) _ 34 rfl (N := 21) rfl 43 _ _ rfl ji5 rfl rfl Try.underlying43 (.slice none 0 0) 24 info34 rfl (by decide) (by omega) [] (ok := fun _ => True) (okp := fun _ => True) ⟨_, rfl, Kd.R_nil _ _ _ _ _⟩ (fun _ hk => hk) trivial (of_decide_eq_true (by first | (with_reducible assumption) | assumption)) (Nat.le_trans (Nat.mul_le_mul_right _ (of_decide_eq_true (by first | (with_reducible assumption) | assumption) : ji5.toNat ≤ 11728124029610)) (by omega)) (Below.refl _ _) (Nat.le_refl _) ?_; intro v132 w8 ho9 hb hg_ hnew_; clear hg_ hnew_; (first | rw [← Ny131.out] at ho9 | (simp only [Int.reduceToNat] at ho9; rw [← Ny131.out] at ho9)); have n0_ := Aside0.mk (Kd.S_lower ho9 (keep_size (w := w) (g := g) (row := none) (by repeat (first | (with_reducible first | exact HK.out | apply KeepBut.set_ | apply keep_drewN | apply keep_drew | apply keep_alloc) | exact HK.out)))); have n1_ := Aside0.mk (IsS71.below (by repeat (first | (with_reducible first | exact HI0.out | apply IsS71.alloc | apply IsS71.drewN | apply IsS71.drew | apply IsS71.set_0 | apply IsS71.set_1) | exact HI0.out)) hb); have n2_ := Aside0.mk (KeepBut.trans (by repeat (first | (with_reducible first | exact HK.out | apply KeepBut.set_ | apply keep_drewN | apply keep_drew | apply keep_alloc) | exact HK.out)) (KeepBut.of_below hb g none) (.inl rfl)); have n3_ := Aside0.mk (below_step (by repeat (first | (with_reducible first | exact HB.out | apply below_alloc | apply pw_below_drewN | apply below_drew1 | refine below_set ?_ (IsS71.ge HI0.out)) | exact HB.out)) hb); clear HI0; clear HK; clear HB; have HO133 := n0_; have HI0 := n1_; have HK := n2_; have HB := n3_; clear n0_ n1_ n2_ n3_; clear hb ho9; obtain ⟨Ao10, co10, eo10⟩ := Kd.S_slice HO133.out; subst eo10))
      go_loopg [24] k (fun kq v24 w' => ∃ (x9_1 : List (List Int)) (x24_1 : Int), v24 = .int .i64 x24_1 ∧ Aside0 (least_table_tails.l0 kq l1 a2 a3 x9_1 (y131.length : Int) x24_1 s0_0 s0_1 s0_2 s0_3 s0_4 s0_5 s0_6 = some (r1, r2, r3)) ∧ Aside0 (kq ≤ k) ∧ Aside0 (Kd.S (Kd.slice 3 (Kd.int .i64)) 34 w' w.heap.size (fun _ => True) (.slice Ao10 y131.length co10) x9_1) ∧ Aside0 (IsS71 w0 w' g s0_0 s0_1 s0_2 s0_3 s0_4 s0_5 s0_6) ∧ Aside0 (KeepBut w w' g none) ∧ Aside0 (Below w0.heap.size w0 w'))
      case atStart => exact ⟨(y131), (0), (by first | rfl | (simp; done) | (simp [*]; done)), H', ⟨Nat.le_refl _⟩, ⟨by (with_reducible repeat (first | apply Kd.S_alloc | apply Kd.S_drewN | apply Kd.S_drew)); exact HO133.out⟩, ⟨by repeat (first | (with_reducible first | exact HI0.out | apply IsS71.alloc | apply IsS71.drewN | apply IsS71.drew | apply IsS71.set_0 | apply IsS71.set_1) | exact HI0.out)⟩, ⟨by repeat (first | (with_reducible first | exact HK.out | apply KeepBut.set_ | apply keep_drewN | apply keep_drew | apply keep_alloc) | exact HK.out)⟩, ⟨by repeat (first | (with_reducible first | exact HB.out | apply below_alloc | apply pw_below_drewN | apply below_drew1 | refine below_set ?_ (IsS71.ge HI0.out)) | exact HB.out)⟩⟩
      case round =>
        clear H'
        try clear c1
        try clear c2
        try clear p2
        try clear c6
        try clear c6b0
        try clear c6b1
        try clear p6
        try clear c7
        try clear c7b0
        try clear c7b1
        obtain ⟨x9_1, x24_1, rfl, HA, HK1, HO_9, HI0, HK, HB⟩ := hrel
        have hl9_1 := (Kd.S_reads' HO_9.out).1
        rw [hl9_1] at HO_9
        (try simp only [hl9_1])
        cases gk with
        | zero => exact absurd HA.out (by simp [least_table_tails.l0])
        | succ k1 =>
          have H := HA.out
          clear HA
          simp only [least_table_tails.l0] at H
          by_cases c11 : x24_1 < (y131.length : Int)
          · rw [if_pos c11] at H
            have c11b0 : decide (x24_1 < (y131.length : Int)) = true := decide_eq_true c11
            clear c11
            obtain ⟨y134, hy134⟩ : ∃ y_ : List Int, y_ = (([(-1)] : List Int)) := ⟨_, rfl⟩
            replace H : ((slices_Repeat_int_int.f y134 (wrap64 (a3 + 1))).bind fun t137 => (if 0 ≤ x24_1 then (if x24_1 < (x9_1.length : Int) then (least_table_tails.l0 k1 l1 a2 a3 (x9_1.set (x24_1 : Int).toNat t137) (y131.length : Int) (wrap64 (x24_1 + 1)) s0_0 s0_1 s0_2 s0_3 s0_4 s0_5 s0_6) else (none)) else (none))) = some (r1, r2, r3) := by first | (rw [hy134]; with_reducible exact H) | (have H2_ := (Option.bind_some _ _).symm.trans H; rw [hy134]; with_reducible exact H2_) | (have H2_ := (Option.bind_some _ _).symm.trans H; with_reducible exact H2_) | with_reducible exact H | (rw [hy134]; exact H) | exact H
            have Ny134 := Aside0.mk hy134
            clear hy134
            replace H := Option.bind_eq_some_iff.mp H
            obtain ⟨t137, A120, H⟩ := H
            replace H : (if 0 ≤ x24_1 then (if x24_1 < (x9_1.length : Int) then (least_table_tails.l0 k1 l1 a2 a3 (x9_1.set (x24_1 : Int).toNat t137) (y131.length : Int) (wrap64 (x24_1 + 1)) s0_0 s0_1 s0_2 s0_3 s0_4 s0_5 s0_6) else (none)) else (none)) = some (r1, r2, r3) := H
            have A12 := Aside0.mk A120
            clear A120
            by_cases c13 : 0 ≤ x24_1
            · rw [if_pos c13] at H
              have c13b0 : decide (0 ≤ x24_1) = true := decide_eq_true c13
              clear c13
              by_cases c14 : x24_1 < (x9_1.length : Int)
              · rw [if_pos c14] at H
                have c14b0 : decide (x24_1 < (x9_1.length : Int)) = true := decide_eq_true c14
                clear c14
                obtain ⟨y140, hy140⟩ : ∃ y_ : List (List Int), y_ = (x9_1.set (x24_1 : Int).toNat t137) := ⟨_, rfl⟩
                replace H : (least_table_tails.l0 k1 l1 a2 a3 y140 (y131.length : Int) (wrap64 (x24_1 + 1)) s0_0 s0_1 s0_2 s0_3 s0_4 s0_5 s0_6) = some (r1, r2, r3) := by first | (rw [hy140]; with_reducible exact H) | (have H2_ := (Option.bind_some _ _).symm.trans H; rw [hy140]; with_reducible exact H2_) | (have H2_ := (Option.bind_some _ _).symm.trans H; with_reducible exact H2_) | with_reducible exact H | (rw [hy140]; exact H) | exact H
                have Ny140 := Aside0.mk hy140
                clear hy140
                have H' := Aside0.mk H
                clear H
                go_wp2_with (first | ((with_reducible refine gate_dst (N := 29) rfl ?_); refine Kd.R_lit (Kd.int .i64) _ 3 ?hg (N := 29) ?hd (xs := ([(-1)] : List Int)) (inner := [.int .i64 (-1)]) (ok := fun _ => True) (okp := fun _ => True) ?hr ?hp (fun _ hk => hk) trivial (Below.refl _ _) (Nat.le_refl _) (by simp) ?_; (case hd => rfl); (case hg => rfl); (case hr => first | (go_simp; done) | (go_simp; rfl)); (case hp => exact (Reps.one (show Kd.M (Kd.int .i64) _ _ _ (-1) [.int .i64 (-1)] from rfl) (Reps.none _ _))); intro v135 w16 ho17 hb hg_ hnew_; clear hg_ hnew_; (first | rw [← Ny134.out] at ho17 | (simp only [Int.reduceToNat] at ho17; rw [← Ny134.out] at ho17)); have n0_ := Aside0.mk (Kd.S_elder' (by (with_reducible repeat (first | apply Kd.S_alloc | apply Kd.S_drewN | apply Kd.S_drew)); exact HO_9.out) (Kd.R_base ho17) hb); have n1_ := Aside0.mk (Kd.R_lower ho17 (keep_size (w := w) (g := g) (row := none) (by repeat (first | (with_reducible first | exact HK.out | apply KeepBut.set_ | apply keep_drewN | apply keep_drew | apply keep_alloc) | exact HK.out)))); have n2_ := Aside0.mk (IsS71.below (by repeat (first | (with_reducible first | exact HI0.out | apply IsS71.alloc | apply IsS71.drewN | apply IsS71.drew | apply IsS71.set_0 | apply IsS71.set_1) | exact HI0.out)) hb); have n3_ := Aside0.mk (KeepBut.trans (by repeat (first | (with_reducible first | exact HK.out | apply KeepBut.set_ | apply keep_drewN | apply keep_drew | apply keep_alloc) | exact HK.out)) (KeepBut.of_below hb g none) (.inl rfl)); have n4_ := Aside0.mk (below_step (by repeat (first | (with_reducible first | exact HB.out | apply below_alloc | apply pw_below_drewN | apply below_drew1 | refine below_set ?_ (IsS71.ge HI0.out)) | exact HB.out)) hb); clear HO_9; clear HI0; clear HK; clear HB; have HO_9 := n0_; have HO136 := n1_; have HI0 := n2_; have HK := n3_; have HB := n4_; clear n0_ n1_ n2_ n3_ n4_; clear hb ho17; obtain ⟨Ao18, co18, eo18⟩ := Kd.R_slice HO136.out; subst eo18) | ((with_reducible refine gate_callee (f := 26) rfl ?_); refine goesL_ (some 32) rfl rfl Try.func26 (by kernel_rfl) rfl #[.slice Ao18 y134.length co18, .int .i64 (wrap64 (a3 + 1))] rfl (by (try simp only [List.map_toArray, List.map_cons, List.map_nil]); first | done | rfl | (simp only [List.length_drop, List.length_take]; rfl)) ?_; (with_reducible refine (slices_Repeat_int_int.calls _ _ y134 (wrap64 (a3 + 1)) t137 _ ?side1 ?side2 A12.out).mono ?_); (case side1 => repeat (first | exact (Kd.R_reads' HO136.out).2.2 | (with_reducible refine Kd.C_alloc ?_ _) | (with_reducible refine Kd.C_drewN ?_ _) | (with_reducible refine Kd.C_drew ?_))); (case side2 => exact (Kd.R_reads' HO136.out).2.1); rintro e w19 ⟨v138, rfl, ho0, hb⟩; refine ⟨_, rfl, ?_⟩; have n0_ := Aside0.mk (Kd.S_elder' (by (with_reducible repeat (first | apply Kd.S_alloc | apply Kd.S_drewN | apply Kd.S_drew)); exact HO_9.out) (Kd.R_base ho0) hb); have n1_ := Aside0.mk (Kd.R_elder' (by (with_reducible repeat (first | apply Kd.R_alloc | apply Kd.R_drewN | apply Kd.R_drew)); exact HO136.out) (Kd.R_base ho0) hb); have n2_ := Aside0.mk (Kd.R_lower (Kd.R_new' ho0 (Kd.R_lt (by (with_reducible repeat (first | apply Kd.R_alloc | apply Kd.R_drewN | apply Kd.R_drew)); exact HO136.out))) (keep_size (w := w) (g := g) (row := none) (by repeat (first | (with_reducible first | exact HK.out | apply KeepBut.set_ | apply keep_drewN | apply keep_drew | apply keep_alloc) | exact HK.out)))); have n3_ := Aside0.mk (IsS71.below (by repeat (first | (with_reducible first | exact HI0.out | apply IsS71.alloc | apply IsS71.drewN | apply IsS71.drew | apply IsS71.set_0 | apply IsS71.set_1) | exact HI0.out)) hb); have n4_ := Aside0.mk (KeepBut.trans (by repeat (first | (with_reducible first | exact HK.out | apply KeepBut.set_ | apply keep_drewN | apply keep_drew | apply keep_alloc) | exact HK.out)) (KeepBut.of_below hb g none) (.inl rfl)); have n5_ := Aside0.mk (below_step (by repeat (first | (with_reducible first | exact HB.out | apply below_alloc | apply pw_below_drewN | apply below_drew1 | refine below_set ?_ (IsS71.ge HI0.out)) | exact HB.out)) hb); clear HO_9; clear HO136; clear HI0; clear HK; clear HB; have HO_9 := n0_; have HO136 := n1_; have HO139 := n2_; have HI0 := n3_; have HK := n4_; have HB := n5_; clear n0_ n1_ n2_ n3_ n4_ n5_; (try clear hb); (try clear hb2); (try clear hk); (try clear hi); (try clear ho0); have p15 : 0 ≤ (x24_1 : Int) := of_decide_eq_true (by first | (with_reducible assumption) | assumption); have q15 : (x24_1 : Int) < ((x9_1.length : Int) : Int) := of_decide_eq_true (by first | (with_reducible assumption) | assumption); obtain ⟨go15, co15, eo15, gb15, gl15, cl15, HG15⟩ := Kd.S_form HO_9.out (by omega); (first | cases eo15 | (injection eo15 with ea_ en_ ec_; (first | subst ea_ | (injection ea_ with ea_; subst ea_)); subst ec_; clear en_)); have GB15 := Aside0.mk gb15; have GG15 := Aside0.mk HG15; clear gb15 gl15 HG15; obtain ⟨_, ce15, hcl15, hM15, hcc15, hfr15, _, _⟩ := Kd.S_elem HO_9.out [] (x24_1 : Int) p15 q15; obtain ⟨ve15_0, rfl, ge15_0⟩ := hM15; have hx15_0 := hcc15 0 _ rfl; have hf15_0 := hfr15 0; (try simp only [show ((Kd.slice 3 (Kd.int .i64))).sz = 1 from rfl, Nat.mul_one, Nat.add_zero] at hx15_0); (try simp only [show ((Kd.slice 3 (Kd.int .i64))).sz = 1 from rfl, Nat.mul_one, Nat.add_zero] at hf15_0); clear hcl15 hcc15 hfr15; replace p15 := eq_true p15; replace q15 := eq_true q15; have n_ := Aside0.mk (Kd.S_mono (ok' := (fun k_ => some k_ ≠ (.slice Ao18 y134.length co18 : Value).ownBlock ∧ some k_ ≠ (v138 : Value).ownBlock)) HO_9.out (fun k_ hk => ⟨hk.1.2, hk.2⟩)); clear HO_9; have HO_9 := n_; clear n_; have HX20 := Aside0.mk (show Kd.S (Kd.slice 3 (Kd.int .i64)) 34 w19 w.heap.size (fun k_ => ((fun k_ => some k_ ≠ (.slice Ao18 y134.length co18 : Value).ownBlock)) k_ ∧ ¬ ((fun k_ => some k_ = (v138 : Value).ownBlock)) k_) (.slice (some ⟨go15, 0, none⟩) x9_1.length co10) x9_1 from (by (with_reducible repeat (first | apply Kd.S_alloc | apply Kd.S_drewN | apply Kd.S_drew)); exact Kd.S_mono HO_9.out (fun k_ hk => ⟨hk.1, fun e_ => hk.2 e_⟩))); obtain ⟨oki20, ce20, hcl20, hM20, hcc20, hfr20, hoki20, hH20⟩ := Kd.S_elem HX20.out [] (x24_1 : Int) (of_decide_eq_true (by first | (with_reducible assumption) | assumption)) (by have h_ : (x24_1 : Int) < ((x9_1.length : Int) : Int) := of_decide_eq_true (by first | (with_reducible assumption) | assumption); first | exact h_ | (have e_ := (Kd.S_reads' HO_9.out).1; omega) | simpa using h_); obtain ⟨ve20_0, rfl, ge20_0⟩ := hM20; have HP20 := Kd.S_seg hH20 (of_decide_eq_true (by first | (with_reducible assumption) | assumption)) (by have h_ : (x24_1 : Int) < ((x9_1.length : Int) : Int) := of_decide_eq_true (by first | (with_reducible assumption) | assumption); first | exact h_ | (have e_ := (Kd.S_reads' HO_9.out).1; omega) | simpa using h_) (seg := [v138]) (j := 0) (show 1 ≤ 1 from by decide) (x' := t137) (Kd.M_row (Kd.R_mono (Kd.R_tight rfl (Kd.R_mono (ok' := fun k_ => ((fun k_ => some k_ ≠ (.slice Ao18 y134.length co18 : Value).ownBlock)) k_ ∧ k_ ≠ go15) (Kd.R_apart' (HO139.out) (Kd.S_typed HO_9.out) (by decide)) (fun k_ hk => ⟨hk.1.2, fun e_ => (hk.2) (by rw [e_]; rfl)⟩))) (fun _ h_ => Or.inr (h_)))) (fun _ hk => hk) (fun k_ hk_ => ((Kd.R_mono (ok' := fun k_ => ((fun k_ => some k_ ≠ (.slice Ao18 y134.length co18 : Value).ownBlock)) k_ ∧ k_ ≠ go15) (Kd.R_apart' (HO139.out) (Kd.S_typed HO_9.out) (by decide)) (fun k_ hk => ⟨hk.1.2, fun e_ => (hk.2) (by rw [e_]; rfl)⟩))).1 k_ hk_.symm); have hx20_0 := hcc20 0 _ rfl; (try simp only [show ((Kd.slice 3 (Kd.int .i64))).sz = 1 from rfl, Nat.mul_one, Nat.add_zero] at hx20_0); have hf20_0 := hfr20 0; (try simp only [show ((Kd.slice 3 (Kd.int .i64))).sz = 1 from rfl, Nat.mul_one, Nat.add_zero] at hf20_0); clear hcl20 hcc20 hfr20 hoki20 hH20; (try simp only [show ((Kd.slice 3 (Kd.int .i64))).sz = 1 from rfl, Nat.mul_one, Nat.add_zero] at HP20)) | ((with_reducible refine gate_store (t := 34) (p := 33) rfl ?_); refine store_event (t := 34) (p := 33) (v := ?vo_w21) (w1 := (w19.setCell ⟨go15, (x24_1 : Int).toNat, none⟩ (v138))) ?hg ?ho ?hn ?hr ?_; (case ho => rfl); (case hg => rfl); (case hn => rfl); (case hr => obtain ⟨A_, c_, e_⟩ := Kd.R_slice HO139.out; first | (go_simp; done) | (go_simp; rfl)); intro w21 hw; have hg : w19.grownBy w21 (some go15) := (by rw [hw]; exact HP20.2); have hp_ : Kd.S (Kd.slice 3 (Kd.int .i64)) 34 w21 w.heap.size (fun k_ => some k_ ≠ (.slice Ao18 y134.length co18 : Value).ownBlock) (.slice (some ⟨go15, 0, none⟩) x9_1.length co10) y140 := (by rw [hw, Ny140.out]; exact HP20.1); clear HP20; have n0_ := Aside0.mk (hp_); have n1_ := Aside0.mk (IsS71.grown (by repeat (first | (with_reducible first | exact HI0.out | apply IsS71.alloc | apply IsS71.drewN | apply IsS71.drew | apply IsS71.set_0 | apply IsS71.set_1) | exact HI0.out)) hg (IsS71.own_neS HI0.out HO_9.out (by decide))); have n2_ := Aside0.mk (Kd.R_over' (v := (.slice (some ⟨go15, 0, none⟩) x9_1.length co10)) (by (with_reducible repeat (first | apply Kd.R_alloc | apply Kd.R_drewN | apply Kd.R_drew)); exact HO136.out) (Kd.S_typed HO_9.out) (by decide) hg); have n3_ := Aside0.mk ((by rw [hw]; exact below_set (HB.out) (Nat.le_trans HL.out GB15.out) : Below w0.heap.size w0 w21)); have n4_ := Aside0.mk (KeepBut.trans (by repeat (first | (with_reducible first | exact HK.out | apply KeepBut.set_ | apply keep_drewN | apply keep_drew | apply keep_alloc) | exact HK.out)) (KeepBut.of_grown hg g) (Kd.S_base2 HO_9.out)); clear HO_9; clear HI0; clear HO136; clear HB; clear HK; clear HO139; have HO_9 := n0_; have HI0 := n1_; have HO136 := n2_; have HB := n3_; have HK := n4_; clear n0_ n1_ n2_ n3_ n4_; clear hg hw hp_))
                (try simp only [← hl9_1])
                go_roundg k1
                case measure => have := HK1.out; omega
                case rel => exact ⟨(y140), (wrap64 (x24_1 + 1)), (by first | rfl | (simp; done) | (simp [*]; done)), H', ⟨by have := HK1.out; omega⟩, ⟨by (try simp only [hl9_1]); (with_reducible repeat (first | apply Kd.S_alloc | apply Kd.S_drewN | apply Kd.S_drew)); exact Kd.S_mono HO_9.out (fun _ hk => trivial)⟩, ⟨by repeat (first | (with_reducible first | exact HI0.out | apply IsS71.alloc | apply IsS71.drewN | apply IsS71.drew | apply IsS71.set_0 | apply IsS71.set_1) | exact HI0.out)⟩, ⟨by repeat (first | (with_reducible first | exact HK.out | apply KeepBut.set_ | apply keep_drewN | apply keep_drew | apply keep_alloc) | exact HK.out)⟩, ⟨by repeat (first | (with_reducible first | exact HB.out | apply below_alloc | apply pw_below_drewN | apply below_drew1 | refine below_set ?_ (IsS71.ge HI0.out)) | exact HB.out)⟩⟩
              · rw [if_neg c14] at H
                exact absurd H (by simp)
            · rw [if_neg c13] at H
              exact absurd H (by simp)
          · rw [if_neg c11] at H
            have c11b0 : decide (x24_1 < (y131.length : Int)) = false := decide_eq_false c11
            (try simp only [hl9_1] at c11b0)
            clear c11
            by_cases c22 : 0 ≤ (l1.length : Int)
            · rw [if_pos c22] at H
              have c22b0 : decide (0 ≤ (l1.length : Int)) = true := decide_eq_true c22
              have c22b1 : decide (0 ≤ l1.length) = true := decide_eq_true (by omega)
              clear c22
              by_cases c23 : (l1.length : Int) < (x9_1.length : Int)
              · rw [if_pos c23] at H
                have c23b0 : decide ((l1.length : Int) < (x9_1.length : Int)) = true := decide_eq_true c23
                have c23b1 : decide (l1.length < x9_1.length) = true := decide_eq_true (Int.ofNat_lt.mp c23)
                clear c23
                by_cases c24 : 0 ≤ a3
                · rw [if_pos c24] at H
                  have c24b0 : decide (0 ≤ a3) = true := decide_eq_true c24
                  clear c24
                  by_cases c25 : a3 < ((rd_L2 x9_1 (l1.length : Int)).length : Int)
                  · rw [if_pos c25] at H
                    have c25b0 : decide (a3 < ((rd_L2 x9_1 (l1.length : Int)).length : Int)) = true := decide_eq_true c25
                    clear c25
                    obtain ⟨y142, hy142⟩ : ∃ y_ : List Int, y_ = ((rd_L2 x9_1 (l1.length : Int)).set (a3 : Int).toNat 0) := ⟨_, rfl⟩
                    replace H : (least_table_tails.l1 k1 l1 a2 a3 (x9_1.set ((l1.length : Int) : Int).toNat y142) (wrap64 ((l1.length : Int) - 1)) s0_0 s0_1 s0_2 s0_3 s0_4 s0_5 s0_6) = some (r1, r2, r3) := by first | (rw [hy142]; with_reducible exact H) | (have H2_ := (Option.bind_some _ _).symm.trans H; rw [hy142]; with_reducible exact H2_) | (have H2_ := (Option.bind_some _ _).symm.trans H; with_reducible exact H2_) | with_reducible exact H | (rw [hy142]; exact H) | exact H
                    have Ny142 := Aside0.mk hy142
                    clear hy142
                    obtain ⟨y144, hy144⟩ : ∃ y_ : List (List Int), y_ = (x9_1.set ((l1.length : Int) : Int).toNat y142) := ⟨_, rfl⟩
                    replace H : (least_table_tails.l1 k1 l1 a2 a3 y144 (wrap64 ((l1.length : Int) - 1)) s0_0 s0_1 s0_2 s0_3 s0_4 s0_5 s0_6) = some (r1, r2, r3) := by first | (rw [hy144]; with_reducible exact H) | (have H2_ := (Option.bind_some _ _).symm.trans H; rw [hy144]; with_reducible exact H2_) | (have H2_ := (Option.bind_some _ _).symm.trans H; with_reducible exact H2_) | with_reducible exact H | (rw [hy144]; exact H) | exact H
                    have Ny144 := Aside0.mk hy144
                    clear hy144
                    have H' := Aside0.mk H
                    clear H
                    have p141 : 0 ≤ ((l1.length : Int) : Int) := of_decide_eq_true (by first | (with_reducible assumption) | assumption)
                    have q141 : (l1.length : Int) < (x9_1.length : Int) := of_decide_eq_true (by first | (with_reducible assumption) | assumption)
                    obtain ⟨ad141, A141_0, c141_0, e141, hx141_0, hl141_0, hi141_0⟩ := at_L2 (Kd.S_reads' HO_9.out).2.2 (l1.length : Int) p141 q141
                    cases e141
                    obtain ⟨ce141, hce141, hMe141, hcc141⟩ := Kd.S_get HO_9.out [] (l1.length : Int) p141 (by first | exact q141 | exact of_decide_eq_true (by first | (with_reducible assumption) | assumption) | (have e_ := (Kd.S_reads' HO_9.out).1; omega))
                    obtain ⟨ve141_0, rfl, ge141_0⟩ := hMe141
                    have hv141_0 := hcc141 0 _ rfl
                    rw [Nat.add_zero, show ((Kd.slice 3 (Kd.int .i64))).sz = 1 from rfl, Nat.mul_one] at hv141_0
                    replace hv141_0 := Option.some.inj (hv141_0.symm.trans hx141_0)
                    rw [hv141_0] at ge141_0
                    have HL141_0 := Aside0.mk (show Kd.R (Kd.int .i64) 3 _ _ _ _ (rd_L2 x9_1 (l1.length : Int)) from ge141_0)
                    clear hv141_0 ge141_0
                    have HX141_0 := Aside0.mk hx141_0
                    clear hcc141 hce141
                    have HR141_0 := Aside0.mk hi141_0
                    have HC141_0 := Aside0.mk hl141_0
                    clear hi141_0 hl141_0
                    (try simp only [Go.IntWalk.toNatUp] at hx141_0)
                    (try simp only [hl9_1] at p141)
                    (try simp only [hl9_1] at q141)
                    (try simp only [hl9_1] at hx141_0)
                    replace p141 := eq_true p141
                    replace q141 := eq_true q141
                    have p26 : 0 ≤ (a3 : Int) := of_decide_eq_true (by first | (with_reducible assumption) | assumption)
                    have q26 : (a3 : Int) < (((rd_L2 x9_1 (l1.length : Int)).length : Int) : Int) := of_decide_eq_true (by first | (with_reducible assumption) | assumption)
                    obtain ⟨go26, co26, eo26, gb26, gl26, cl26, HG26⟩ := Kd.R_form HL141_0.out (by omega)
                    (first | cases eo26 | (injection eo26 with ea_ en_ ec_; (first | subst ea_ | (injection ea_ with ea_; subst ea_)); subst ec_; clear en_))
                    have GB26 := Aside0.mk gb26
                    have GG26 := Aside0.mk HG26
                    clear gb26 gl26 HG26
                    obtain ⟨hx26_0, hf26_0⟩ := Kd.R_celln 0 HL141_0.out (a3 : Int) p26 q26
                    replace p26 := eq_true p26
                    replace q26 := eq_true q26
                    have hq27 : ((l1.length : Int) : Int) < (x9_1.length : Int) := (by have h_ : ((l1.length : Int) : Int) < ((x9_1.length : Int) : Int) := of_decide_eq_true (by first | (with_reducible assumption) | assumption); first | exact h_ | (have e_ := (Kd.S_reads' HO_9.out).1; omega) | simpa only [List.length_set, List.length_set] using h_)
                    obtain ⟨oki27, ce27, hcl27, hM27, hcc27, hok27, hbk27⟩ := Kd.S_borrow HO_9.out [] ((l1.length : Int) : Int) (of_decide_eq_true (by first | (with_reducible assumption) | assumption)) hq27
                    obtain ⟨ve27_0, rfl, ge27_0⟩ := hM27
                    have hv27 := hcc27 0 _ rfl
                    rw [Nat.add_zero, show ((Kd.slice 3 (Kd.int .i64))).sz = 1 from rfl, Nat.mul_one] at hv27
                    replace hv27 := Option.some.inj (hv27.symm.trans HX141_0.out)
                    subst hv27
                    clear hcc27 hcl27
                    replace ge27_0 := (show Kd.R (Kd.int .i64) 3 _ _ _ _ (rd_L2 x9_1 (l1.length : Int)) from ge27_0)
                    have HP27 := Kd.R_putg ge27_0 (a3 : Int) 0
                    go_wp2_with (first | ((with_reducible refine gate_store (t := 3) (p := 41) rfl ?_); refine store_event (t := 3) (p := 41) (v := ?vo_w28) (w1 := (wr.setCell ⟨go26, (a3 : Int).toNat, none⟩ (.int .i64 0))) ?hg ?ho ?hn ?hr ?_; (case ho => rfl); (case hg => rfl); (case hn => rfl); (case hr => first | (go_simp; done) | (go_simp; rfl)); intro w28 hw; have hg : wr.grownBy w28 (some go26) := (by rw [hw]; exact HP27.2); have hz_ : Kd.R (Kd.int .i64) 3 w28 w.heap.size oki27 (.slice (some ⟨go26, 0, none⟩) (rd_L2 x9_1 (l1.length : Int)).length c141_0) y142 := (by rw [hw, Ny142.out]; exact HP27.1); have hp_ : Kd.S (Kd.slice 3 (Kd.int .i64)) 34 w28 w.heap.size (fun _ => True) (.slice (some ad141) x9_1.length co10) y144 := (by rw [Ny144.out]; exact hbk27 hg (fun k_ e_ => by injection e_ with e_; subst e_; exact ge27_0.1 _ rfl) (Kd.M_row hz_)); have hm_ := Kd.R_mono hz_ hok27; clear HP27 hbk27; have n0_ := Aside0.mk (hp_); have n1_ := Aside0.mk (IsS71.grown (by repeat (first | (with_reducible first | exact HI0.out | apply IsS71.alloc | apply IsS71.drewN | apply IsS71.drew | apply IsS71.set_0 | apply IsS71.set_1) | exact HI0.out)) hg (IsS71.own_ne HI0.out HL141_0.out (by decide))); have n2_ := Aside0.mk ((by rw [hw]; exact below_set (HB.out) (Nat.le_trans HL.out GB26.out) : Below w0.heap.size w0 w28)); have n3_ := Aside0.mk (KeepBut.trans (by repeat (first | (with_reducible first | exact HK.out | apply KeepBut.set_ | apply keep_drewN | apply keep_drew | apply keep_alloc) | exact HK.out)) (KeepBut.of_grown hg g) (Kd.R_base2 HL141_0.out)); have n4_ := Aside0.mk (hm_); have n5_ := Aside0.mk ((Kd.R_reads' hm_).2.1); clear HO_9; clear HI0; clear HB; clear HK; clear HL141_0; have HO_9 := n0_; have HI0 := n1_; have HB := n2_; have HK := n3_; have HL155 := n4_; have HC143 := n5_; clear n0_ n1_ n2_ n3_ n4_ n5_; clear hg hw hp_ hz_ hm_ hok27))
                    go_loopg [11] k1 (fun kq v11 w' => ∃ (x9_2 : List (List Int)) (x11_2 : Int) (x1000_2 : Int) (x1001_2 : Int), v11 = .int .i64 x11_2 ∧ Aside0 (least_table_tails.l1 kq l1 a2 a3 x9_2 x11_2 x1000_2 x1001_2 s0_2 s0_3 s0_4 s0_5 s0_6 = some (r1, r2, r3)) ∧ Aside0 (kq ≤ k1) ∧ Aside0 (Kd.S (Kd.slice 3 (Kd.int .i64)) 34 w' w.heap.size (fun _ => True) (.slice (some ad141) x9_1.length co10) x9_2) ∧ Aside0 (IsS71 w0 w' g x1000_2 x1001_2 s0_2 s0_3 s0_4 s0_5 s0_6) ∧ Aside0 (KeepBut w w' g none) ∧ Aside0 (Below w0.heap.size w0 w'))
                    case atStart => exact ⟨(y144), (wrap64 ((l1.length : Int) - 1)), (s0_0), (s0_1), (by first | rfl | (simp; done) | (simp [*]; done)), H', ⟨Nat.le_refl _⟩, ⟨by (try simp only [hl9_1]); (with_reducible repeat (first | apply Kd.S_alloc | apply Kd.S_drewN | apply Kd.S_drew)); exact HO_9.out⟩, ⟨by repeat (first | (with_reducible first | exact HI0.out | apply IsS71.alloc | apply IsS71.drewN | apply IsS71.drew | apply IsS71.set_0 | apply IsS71.set_1) | exact HI0.out)⟩, ⟨by repeat (first | (with_reducible first | exact HK.out | apply KeepBut.set_ | apply keep_drewN | apply keep_drew | apply keep_alloc) | exact HK.out)⟩, ⟨by repeat (first | (with_reducible first | exact HB.out | apply below_alloc | apply pw_below_drewN | apply below_drew1 | refine below_set ?_ (IsS71.ge HI0.out)) | exact HB.out)⟩⟩
                    case round =>
                      clear H'
                      try clear c1
                      try clear p1
                      try clear q1
                      try clear hx1
                      try clear c2
                      try clear p2
                      try clear q2
                      try clear hx2
                      try clear c6
                      try clear c6b0
                      try clear c6b1
                      try clear p6
                      try clear c7
                      try clear c7b0
                      try clear c7b1
                      try clear c11
                      try clear c11b0
                      try clear c13
                      try clear c13b0
                      try clear c14
                      try clear c14b0
                      try clear p14
                      try clear q14
                      try clear hx14
                      try clear c15
                      try clear p15
                      try clear q15
                      try clear hx15
                      try clear hf15
                      try clear c20
                      try clear hx20
                      try clear hf20
                      try clear c22
                      try clear c22b0
                      try clear c22b1
                      try clear c23
                      try clear c23b0
                      try clear c23b1
                      try clear c24
                      try clear c24b0
                      try clear c25
                      try clear c25b0
                      try clear c26
                      try clear p26
                      try clear q26
                      try clear hx26
                      try clear hf26
                      try clear c27
                      try clear q27
                      try clear c28
                      try clear hx141_0
                      try clear hx15_0
                      try clear hx20_0
                      try clear hx26_0
                      try clear p141
                      try clear p15
                      try clear p2
                      try clear p26
                      try clear p6
                      try clear q141
                      try clear q15
                      try clear q26
                      obtain ⟨x9_2, x11_2, x1000_2, x1001_2, rfl, HA, HK2, HO_9, HI0, HK, HB⟩ := hrel
                      have hl9_2 := (Kd.S_reads' HO_9.out).1
                      rw [hl9_2] at HO_9
                      (try simp only [hl9_2])
                      cases gk with
                      | zero => exact absurd HA.out (by simp [least_table_tails.l1])
                      | succ k2 =>
                        have H := HA.out
                        clear HA
                        simp only [least_table_tails.l1] at H
                        by_cases c29 : x11_2 ≥ 0
                        · rw [if_pos c29] at H
                          have c29b0 : decide (0 ≤ x11_2) = true := decide_eq_true c29
                          clear c29
                          have H' := Aside0.mk H
                          clear H
                          go_wp2
                          go_loopg [12] k2 (fun kq v12 w' => ∃ (x9_3 : List (List Int)) (x12_3 : Int) (x1000_3 : Int) (x1001_3 : Int), v12 = .int .i64 x12_3 ∧ Aside0 (least_table_tails.l2 kq l1 a2 a3 x9_3 x11_2 x12_3 x1000_3 x1001_3 s0_2 s0_3 s0_4 s0_5 s0_6 = some (r1, r2, r3)) ∧ Aside0 (kq ≤ k2) ∧ Aside0 (Kd.S (Kd.slice 3 (Kd.int .i64)) 34 w' w.heap.size (fun _ => True) (.slice (some ad141) x9_2.length co10) x9_3) ∧ Aside0 (IsS71 w0 w' g x1000_3 x1001_3 s0_2 s0_3 s0_4 s0_5 s0_6) ∧ Aside0 (KeepBut w w' g none) ∧ Aside0 (Below w0.heap.size w0 w'))
                          case atStart => exact ⟨(x9_2), (a2), (x1000_2), (x1001_2), (by first | rfl | (simp; done) | (simp [*]; done)), H', ⟨Nat.le_refl _⟩, ⟨by (try simp only [hl9_1]); (try simp only [hl9_2]); (with_reducible repeat (first | apply Kd.S_alloc | apply Kd.S_drewN | apply Kd.S_drew)); exact HO_9.out⟩, ⟨by repeat (first | (with_reducible first | exact HI0.out | apply IsS71.alloc | apply IsS71.drewN | apply IsS71.drew | apply IsS71.set_0 | apply IsS71.set_1) | exact HI0.out)⟩, ⟨by repeat (first | (with_reducible first | exact HK.out | apply KeepBut.set_ | apply keep_drewN | apply keep_drew | apply keep_alloc) | exact HK.out)⟩, ⟨by repeat (first | (with_reducible first | exact HB.out | apply below_alloc | apply pw_below_drewN | apply below_drew1 | refine below_set ?_ (IsS71.ge HI0.out)) | exact HB.out)⟩⟩
                          case round =>
                            clear H'
                            try clear c1
                            try clear p1
                            try clear q1
                            try clear hx1
                            try clear c2
                            try clear p2
                            try clear q2
                            try clear hx2
                            try clear c6
                            try clear c6b0
                            try clear c6b1
                            try clear p6
                            try clear c7
                            try clear c7b0
                            try clear c7b1
                            try clear c11
                            try clear c11b0
                            try clear c13
                            try clear c13b0
                            try clear c14
                            try clear c14b0
                            try clear p14
                            try clear q14
                            try clear hx14
                            try clear c15
                            try clear p15
                            try clear q15
                            try clear hx15
                            try clear hf15
                            try clear c20
                            try clear hx20
                            try clear hf20
                            try clear c22
                            try clear c22b0
                            try clear c22b1
                            try clear c23
                            try clear c23b0
                            try clear c23b1
                            try clear c24
                            try clear c24b0
                            try clear c25
                            try clear c25b0
                            try clear c26
                            try clear p26
                            try clear q26
                            try clear hx26
                            try clear hf26
                            try clear c27
                            try clear q27
                            try clear c28
                            try clear c29
                            try clear c29b0
                            try clear hx141_0
                            try clear hx15_0
                            try clear hx20_0
                            try clear hx26_0
                            try clear p1
                            try clear p14
                            try clear p141
                            try clear p15
                            try clear p2
                            try clear p26
                            try clear p6
                            try clear q1
                            try clear q14
                            try clear q141
                            try clear q15
                            try clear q2
                            try clear q26
                            try clear q27
                            obtain ⟨x9_3, x12_3, x1000_3, x1001_3, rfl, HA, HK3, HO_9, HI0, HK, HB⟩ := hrel
                            have hl9_3 := (Kd.S_reads' HO_9.out).1
                            rw [hl9_3] at HO_9
                            (try simp only [hl9_3])
                            cases gk with
                            | zero => exact absurd HA.out (by simp [least_table_tails.l2])
                            | succ k3 =>
                              have H := HA.out
                              clear HA
                              simp only [least_table_tails.l2] at H
                              by_cases c30 : x12_3 ≤ a3
                              · rw [if_pos c30] at H
                                have c30b0 : decide (x12_3 ≤ a3) = true := decide_eq_true c30
                                clear c30
                                have H' := Aside0.mk H
                                clear H
                                go_wp2
                                go_loopg [13, 14] k3 (fun kq v13 v14 w' => ∃ (x13_4 : Int) (x14_4 : Int) (x1000_4 : Int) (x1001_4 : Int), v13 = .int .i64 x13_4 ∧ v14 = .int .i64 x14_4 ∧ Aside0 (least_table_tails.l3 kq l1 a2 a3 x9_3 x11_2 x12_3 x13_4 x14_4 x1000_4 x1001_4 s0_2 s0_3 s0_4 s0_5 s0_6 = some (r1, r2, r3)) ∧ Aside0 (kq ≤ k3) ∧ Aside0 (Kd.S (Kd.slice 3 (Kd.int .i64)) 34 w' w.heap.size (fun _ => True) (.slice (some ad141) x9_3.length co10) x9_3) ∧ Aside0 (IsS71 w0 w' g x1000_4 x1001_4 s0_2 s0_3 s0_4 s0_5 s0_6) ∧ Aside0 (KeepBut w w' g none) ∧ Aside0 (Below w0.heap.size w0 w'))
                                case atStart => exact ⟨((-1)), (x12_3), (x1000_3), (x1001_3), (by first | rfl | (simp; done) | (simp [*]; done)), (by first | rfl | (simp; done) | (simp [*]; done)), H', ⟨Nat.le_refl _⟩, ⟨by (try simp only [hl9_1]); (try simp only [hl9_2]); (try simp only [hl9_3]); (with_reducible repeat (first | apply Kd.S_alloc | apply Kd.S_drewN | apply Kd.S_drew)); exact HO_9.out⟩, ⟨by repeat (first | (with_reducible first | exact HI0.out | apply IsS71.alloc | apply IsS71.drewN | apply IsS71.drew | apply IsS71.set_0 | apply IsS71.set_1) | exact HI0.out)⟩, ⟨by repeat (first | (with_reducible first | exact HK.out | apply KeepBut.set_ | apply keep_drewN | apply keep_drew | apply keep_alloc) | exact HK.out)⟩, ⟨by repeat (first | (with_reducible first | exact HB.out | apply below_alloc | apply pw_below_drewN | apply below_drew1 | refine below_set ?_ (IsS71.ge HI0.out)) | exact HB.out)⟩⟩
                                case round =>
                                  clear H'
                                  try clear c1
                                  try clear p1
                                  try clear q1
                                  try clear hx1
                                  try clear c2
                                  try clear p2
                                  try clear q2
                                  try clear hx2
                                  try clear c3
                                  try clear c6
                                  try clear c6b0
                                  try clear c6b1
                                  try clear p6
                                  try clear c7
                                  try clear c7b0
                                  try clear c7b1
                                  try clear c11
                                  try clear c11b0
                                  try clear c13
                                  try clear c13b0
                                  try clear c14
                                  try clear c14b0
                                  try clear p14
                                  try clear q14
                                  try clear hx14
                                  try clear c15
                                  try clear p15
                                  try clear q15
                                  try clear hx15
                                  try clear hf15
                                  try clear c20
                                  try clear hx20
                                  try clear hf20
                                  try clear c22
                                  try clear c22b0
                                  try clear c22b1
                                  try clear c23
                                  try clear c23b0
                                  try clear c23b1
                                  try clear c24
                                  try clear c24b0
                                  try clear c25
                                  try clear c25b0
                                  try clear c26
                                  try clear p26
                                  try clear q26
                                  try clear hx26
                                  try clear hf26
                                  try clear c27
                                  try clear q27
                                  try clear c28
                                  try clear c29
                                  try clear c29b0
                                  try clear c30
                                  try clear c30b0
                                  try clear hx141_0
                                  try clear hx15_0
                                  try clear hx20_0
                                  try clear hx26_0
                                  try clear p1
                                  try clear p14
                                  try clear p141
                                  try clear p15
                                  try clear p2
                                  try clear p26
                                  try clear p6
                                  try clear q1
                                  try clear q14
                                  try clear q141
                                  try clear q15
                                  try clear q2
                                  try clear q26
                                  try clear q27
                                  obtain ⟨x13_4, x14_4, x1000_4, x1001_4, rfl, rfl, HA, HK4, HO_9, HI0, HK, HB⟩ := hrel
                                  cases gk with
                                  | zero => exact absurd HA.out (by simp [least_table_tails.l3])
                                  | succ k4 =>
                                    have H := HA.out
                                    clear HA
                                    simp only [least_table_tails.l3] at H
                                    by_cases c31 : x14_4 ≤ a3
                                    · rw [if_pos c31] at H
                                      have c31b0 : decide (x14_4 ≤ a3) = true := decide_eq_true c31
                                      clear c31
                                      obtain ⟨ji32, hji32⟩ : ∃ j_ : Int, (wrap64 (x11_2 + 1)) = j_ := ⟨_, rfl⟩
                                      replace H : (if 0 ≤ (ji32) then (if (ji32) < (x9_3.length : Int) then (if 0 ≤ x14_4 then (if x14_4 < ((rd_L2 x9_3 (ji32)).length : Int) then (if (rd (rd_L2 x9_3 (ji32)) x14_4) = (-1) then (least_table_tails.j4 k4 l1 a2 a3 x9_3 x11_2 x12_3 x13_4 x14_4 (rd (rd_L2 x9_3 (ji32)) x14_4) (-1) x1000_4 x1001_4 s0_2 s0_3 s0_4 s0_5 s0_6) else (if 0 ≤ x11_2 then (if x11_2 < (l1.length : Int) then ((least_table_of.f x1000_4 x1001_4 s0_2 s0_3 s0_4 s0_5 s0_6 (rd l1 x11_2) x12_3 x14_4).bind fun bt152 => (least_table_tails.j4 k4 l1 a2 a3 x9_3 x11_2 x12_3 x13_4 x14_4 (rd (rd_L2 x9_3 (ji32)) x14_4) bt152.1 bt152.2.1 bt152.2.2 s0_2 s0_3 s0_4 s0_5 s0_6)) else (none)) else (none))) else (none)) else (none)) else (none)) else (none)) = some (r1, r2, r3) := by first | (rw [hji32] at H; exact H) | (simp only [hji32] at H ⊢; exact H)
                                      have hji32w : (IntKind.i64.wrap (x11_2 + 1)) = ji32 := (i64_w _).trans hji32
                                      by_cases c33 : 0 ≤ (ji32)
                                      · rw [if_pos c33] at H
                                        have c33b0 : decide (0 ≤ (ji32)) = true := decide_eq_true c33
                                        clear c33
                                        by_cases c34 : (ji32) < (x9_3.length : Int)
                                        · rw [if_pos c34] at H
                                          have c34b0 : decide ((ji32) < (x9_3.length : Int)) = true := decide_eq_true c34
                                          clear c34
                                          by_cases c35 : 0 ≤ x14_4
                                          · rw [if_pos c35] at H
                                            have c35b0 : decide (0 ≤ x14_4) = true := decide_eq_true c35
                                            clear c35
                                            by_cases c36 : x14_4 < ((rd_L2 x9_3 (ji32)).length : Int)
                                            · rw [if_pos c36] at H
                                              have c36b0 : decide (x14_4 < ((rd_L2 x9_3 (ji32)).length : Int)) = true := decide_eq_true c36
                                              clear c36
                                              have HC37 := Aside0.mk H
                                              clear H
                                              have p149 : 0 ≤ ((ji32) : Int) := of_decide_eq_true (by first | (with_reducible assumption) | assumption)
                                              have q149 : (ji32) < (x9_3.length : Int) := of_decide_eq_true (by first | (with_reducible assumption) | assumption)
                                              obtain ⟨ad149, A149_0, c149_0, e149, hx149_0, hl149_0, hi149_0⟩ := at_L2 (Kd.S_reads' HO_9.out).2.2 (ji32) p149 q149
                                              obtain rfl : ad141 = ad149 := (by injection e149)
                                              obtain ⟨ce149, hce149, hMe149, hcc149⟩ := Kd.S_get HO_9.out [] (ji32) p149 (by first | exact q149 | exact of_decide_eq_true (by first | (with_reducible assumption) | assumption) | (have e_ := (Kd.S_reads' HO_9.out).1; omega))
                                              obtain ⟨ve149_0, rfl, ge149_0⟩ := hMe149
                                              have hv149_0 := hcc149 0 _ rfl
                                              rw [Nat.add_zero, show ((Kd.slice 3 (Kd.int .i64))).sz = 1 from rfl, Nat.mul_one] at hv149_0
                                              replace hv149_0 := Option.some.inj (hv149_0.symm.trans hx149_0)
                                              rw [hv149_0] at ge149_0
                                              have HL149_0 := Aside0.mk (show Kd.R (Kd.int .i64) 3 _ _ _ _ (rd_L2 x9_3 (ji32)) from ge149_0)
                                              clear hv149_0 ge149_0
                                              have HX149_0 := Aside0.mk hx149_0
                                              clear hcc149 hce149
                                              have HR149_0 := Aside0.mk hi149_0
                                              have HC149_0 := Aside0.mk hl149_0
                                              clear hi149_0 hl149_0
                                              replace p149 := eq_true p149
                                              replace q149 := eq_true q149
                                              have p150 : 0 ≤ (x14_4 : Int) := of_decide_eq_true (by first | (with_reducible assumption) | assumption)
                                              have q150 : x14_4 < ((rd_L2 x9_3 (ji32)).length : Int) := of_decide_eq_true (by first | (with_reducible assumption) | assumption)
                                              obtain ⟨ad150, e150, hx150_0⟩ := Kd.at_int (by repeat (first | (with_reducible exact HR149_0.out) | (with_reducible refine Kd.C_alloc ?_ _) | (with_reducible refine Kd.C_drewN ?_ _) | (with_reducible refine Kd.C_drew ?_) | exact HR149_0.out)) x14_4 p150 q150
                                              cases e150
                                              replace p150 := eq_true p150
                                              replace q150 := eq_true q150
                                              go_upto_if 70 with (fail)
                                              go_cut [16] (fun v16 wc => ∃ (kq : Nat) (x16_36 : Int) (x1000_36 : Int) (x1001_36 : Int), v16 = .int .i64 x16_36 ∧ Aside0 (least_table_tails.j4 kq l1 a2 a3 x9_3 x11_2 x12_3 x13_4 x14_4 (rd (rd_L2 x9_3 (ji32)) x14_4) x16_36 x1000_36 x1001_36 s0_2 s0_3 s0_4 s0_5 s0_6 = some (r1, r2, r3)) ∧ Aside0 (kq ≤ k4) ∧ Aside0 (Kd.S (Kd.slice 3 (Kd.int .i64)) 34 wc w.heap.size (fun _ => True) (.slice (some ad141) x9_3.length co10) x9_3) ∧ Aside0 (IsS71 w0 wc g x1000_36 x1001_36 s0_2 s0_3 s0_4 s0_5 s0_6) ∧ Aside0 (KeepBut w wc g none) ∧ Aside0 (Below w0.heap.size w0 wc))
                                              case first =>
                                                have H := HC37.out
                                                clear HC37
                                                by_cases c38 : (rd (rd_L2 x9_3 (ji32)) x14_4) = (-1)
                                                · rw [if_pos c38] at H
                                                  have c38b0 : ((rd (rd_L2 x9_3 (ji32)) x14_4) == (-1)) = true := beq_iff_eq.mpr c38
                                                  have c38b1 : ((rd (rd_L2 x9_3 (ji32)) x14_4) != (-1)) = false := bne_eq_false_iff_eq.mpr c38
                                                  clear c38
                                                  (first | rw [c38b0] | (simp only [i64_w, i32_w]; rw [c38b0]) | skip)
                                                  have H' := Aside0.mk H
                                                  clear H
                                                  go_wp2
                                                  go_meet
                                                  case rel => exact ⟨_, ((-1)), (x1000_4), (x1001_4), (by first | rfl | (simp; done) | (simp [*]; done)), H', ⟨by have := HK1.out; have := HK2.out; have := HK3.out; have := HK4.out; first | omega | exact Nat.le_refl _⟩, ⟨by (try simp only [hl9_1]); (try simp only [hl9_2]); (try simp only [hl9_3]); (with_reducible repeat (first | apply Kd.S_alloc | apply Kd.S_drewN | apply Kd.S_drew)); exact HO_9.out⟩, ⟨by repeat (first | (with_reducible first | exact HI0.out | apply IsS71.alloc | apply IsS71.drewN | apply IsS71.drew | apply IsS71.set_0 | apply IsS71.set_1) | exact HI0.out)⟩, ⟨by repeat (first | (with_reducible first | exact HK.out | apply KeepBut.set_ | apply keep_drewN | apply keep_drew | apply keep_alloc) | exact HK.out)⟩, ⟨by repeat (first | (with_reducible first | exact HB.out | apply below_alloc | apply pw_below_drewN | apply below_drew1 | refine below_set ?_ (IsS71.ge HI0.out)) | exact HB.out)⟩⟩
                                                · rw [if_neg c38] at H
                                                  have c38b0 : ((rd (rd_L2 x9_3 (ji32)) x14_4) == (-1)) = false := beq_eq_false_iff_ne.mpr c38
                                                  have c38b1 : ((rd (rd_L2 x9_3 (ji32)) x14_4) != (-1)) = true := bne_iff_ne.mpr c38
                                                  (first | rw [c38b0] | (simp only [i64_w, i32_w]; rw [c38b0]) | skip)
                                                  by_cases c39 : 0 ≤ x11_2
                                                  · rw [if_pos c39] at H
                                                    have c39b0 : decide (0 ≤ x11_2) = true := decide_eq_true c39
                                                    clear c39
                                                    by_cases c40 : x11_2 < (l1.length : Int)
                                                    · rw [if_pos c40] at H
                                                      have c40b0 : decide (x11_2 < (l1.length : Int)) = true := decide_eq_true c40
                                                      clear c40
                                                      replace H := Option.bind_eq_some_iff.mp H
                                                      obtain ⟨⟨t152, t153, t154⟩, A410, H⟩ := H
                                                      replace H : (least_table_tails.j4 k4 l1 a2 a3 x9_3 x11_2 x12_3 x13_4 x14_4 (rd (rd_L2 x9_3 (ji32)) x14_4) t152 t153 t154 s0_2 s0_3 s0_4 s0_5 s0_6) = some (r1, r2, r3) := H
                                                      have A41 := Aside0.mk A410
                                                      clear A410
                                                      have H' := Aside0.mk H
                                                      clear H
                                                      have p151 : 0 ≤ (x11_2 : Int) := of_decide_eq_true (by first | (with_reducible assumption) | assumption)
                                                      have q151 : x11_2 < (l1.length : Int) := of_decide_eq_true (by first | (with_reducible assumption) | assumption)
                                                      obtain ⟨ad151, e151, hx151_0⟩ := Kd.at_int HR1.out x11_2 p151 q151
                                                      cases e151
                                                      replace hx151_0 := keep_cell HK.out hx151_0 (by first | (rw [add_block]; exact hf1 _ rfl (by omega)) | exact hf1 _ rfl (by omega) | exact hf1 ad151 rfl (by omega))
                                                      replace p151 := eq_true p151
                                                      replace q151 := eq_true q151
                                                      go_wp2_with (first | ((with_reducible refine gate_callee (f := 20) rfl ?_); refine goesL_ (some 78) rfl rfl Try.func20 (by kernel_rfl) rfl #[.pointer (some ⟨g, 0, none⟩), .int .i64 (rd l1 x11_2), .int .i64 x12_3, .int .i64 x14_4] rfl (by (try simp only [List.map_toArray, List.map_cons, List.map_nil]); first | done | rfl | (simp only [List.length_drop, List.length_take]; rfl)) ?_; (with_reducible refine (least_table_of.calls g x1000_4 x1001_4 s0_2 s0_3 s0_4 s0_5 s0_6 (rd l1 x11_2) x12_3 x14_4 t152 t153 t154 w0 _ ?side1 ?side2 A41.out).mono ?_); (case side1 => repeat (first | (with_reducible first | exact HI0.out | apply IsS71.alloc | apply IsS71.drewN | apply IsS71.drew | apply IsS71.set_0 | apply IsS71.set_1) | exact HI0.out)); (case side2 => repeat (first | (with_reducible first | exact HB.out | apply below_alloc | apply pw_below_drewN | apply below_drew1 | refine below_set ?_ (IsS71.ge HI0.out)) | exact HB.out)); rintro e w42 ⟨rfl, hi, hb, hk⟩; refine ⟨_, rfl, ?_⟩; have n0_ := Aside0.mk (Kd.S_mono (Kd.S_keep (IsS71.apartS (show IsS71 w0 _ g x1000_4 x1001_4 s0_2 s0_3 s0_4 s0_5 s0_6 from by repeat (first | (with_reducible first | exact HI0.out | apply IsS71.alloc | apply IsS71.drewN | apply IsS71.drew | apply IsS71.set_0 | apply IsS71.set_1) | exact HI0.out)) (by (with_reducible repeat (first | apply Kd.S_alloc | apply Kd.S_drewN | apply Kd.S_drew)); exact HO_9.out) (by decide)) hk (fun _ h => h.2)) (fun _ h => h.1)); have n1_ := Aside0.mk (Kd.R_mono (Kd.R_keep (IsS71.apart (show IsS71 w0 _ g x1000_4 x1001_4 s0_2 s0_3 s0_4 s0_5 s0_6 from by repeat (first | (with_reducible first | exact HI0.out | apply IsS71.alloc | apply IsS71.drewN | apply IsS71.drew | apply IsS71.set_0 | apply IsS71.set_1) | exact HI0.out)) (by (with_reducible repeat (first | apply Kd.R_alloc | apply Kd.R_drewN | apply Kd.R_drew)); exact HL149_0.out) (by decide)) hk (fun _ h => h.2)) (fun _ h => h.1)); have n2_ := Aside0.mk (keep_cell hk HX149_0.out (by first | (rw [add_block]; exact Kd.own_blk (IsS71.own_neS HI0.out HO_9.out (by decide))) | (show (Addr.add _ _).block ≠ _; rw [add_block]; exact Kd.own_blk (IsS71.own_neS HI0.out HO_9.out (by decide))) | exact Kd.own_blk (IsS71.own_neS HI0.out HO_9.out (by decide)) | (dsimp only; exact Kd.own_blk (IsS71.own_neS HI0.out HO_9.out (by decide))))); have n3_ := Aside0.mk (KeepBut.trans (by repeat (first | (with_reducible first | exact HK.out | apply KeepBut.set_ | apply keep_drewN | apply keep_drew | apply keep_alloc) | exact HK.out)) hk (.inl rfl)); have n4_ := Aside0.mk (hb); have n5_ := Aside0.mk (hi); clear HO_9; clear HL149_0; clear HX149_0; clear HK; clear HB; clear HI0; have HO_9 := n0_; have HL149_0 := n1_; have HX149_0 := n2_; have HK := n3_; have HB := n4_; have HI0 := n5_; clear n0_ n1_ n2_ n3_ n4_ n5_; (try clear hb); (try clear hb2); (try clear hk); (try clear hi)))
                                                      go_meet
                                                      case rel => exact ⟨_, (t152), (t153), (t154), (by first | rfl | (simp; done) | (simp [*]; done)), H', ⟨by have := HK1.out; have := HK2.out; have := HK3.out; have := HK4.out; first | omega | exact Nat.le_refl _⟩, ⟨by (try simp only [hl9_1]); (try simp only [hl9_2]); (try simp only [hl9_3]); (with_reducible repeat (first | apply Kd.S_alloc | apply Kd.S_drewN | apply Kd.S_drew)); exact HO_9.out⟩, ⟨by repeat (first | (with_reducible first | exact HI0.out | apply IsS71.alloc | apply IsS71.drewN | apply IsS71.drew | apply IsS71.set_0 | apply IsS71.set_1) | exact HI0.out)⟩, ⟨by repeat (first | (with_reducible first | exact HK.out | apply KeepBut.set_ | apply keep_drewN | apply keep_drew | apply keep_alloc) | exact HK.out)⟩, ⟨by repeat (first | (with_reducible first | exact HB.out | apply below_alloc | apply pw_below_drewN | apply below_drew1 | refine below_set ?_ (IsS71.ge HI0.out)) | exact HB.out)⟩⟩
                                                    · rw [if_neg c40] at H
                                                      exact absurd H (by simp)
                                                  · rw [if_neg c39] at H
                                                    exact absurd H (by simp)
                                              case rest =>
                                                clear HC37
                                                try clear c1
                                                try clear p1
                                                try clear q1
                                                try clear hx1
                                                try clear c2
                                                try clear p2
                                                try clear q2
                                                try clear hx2
                                                try clear c3
                                                try clear c4
                                                try clear c6
                                                try clear c6b0
                                                try clear c6b1
                                                try clear p6
                                                try clear c7
                                                try clear c7b0
                                                try clear c7b1
                                                try clear c11
                                                try clear c11b0
                                                try clear c13
                                                try clear c13b0
                                                try clear c14
                                                try clear c14b0
                                                try clear p14
                                                try clear q14
                                                try clear hx14
                                                try clear c15
                                                try clear p15
                                                try clear q15
                                                try clear hx15
                                                try clear hf15
                                                try clear c20
                                                try clear hx20
                                                try clear hf20
                                                try clear c22
                                                try clear c22b0
                                                try clear c22b1
                                                try clear c23
                                                try clear c23b0
                                                try clear c23b1
                                                try clear c24
                                                try clear c24b0
                                                try clear c25
                                                try clear c25b0
                                                try clear c26
                                                try clear p26
                                                try clear q26
                                                try clear hx26
                                                try clear hf26
                                                try clear c27
                                                try clear q27
                                                try clear c28
                                                try clear c29
                                                try clear c29b0
                                                try clear c30
                                                try clear c30b0
                                                try clear c31
                                                try clear c31b0
                                                try clear c33
                                                try clear c33b0
                                                try clear c34
                                                try clear c34b0
                                                try clear c35
                                                try clear c35b0
                                                try clear c36
                                                try clear c36b0
                                                try clear c38
                                                try clear c38b0
                                                try clear c38b1
                                                try clear c39
                                                try clear c39b0
                                                try clear c40
                                                try clear c40b0
                                                try clear hx141_0
                                                try clear hx149_0
                                                try clear hx150_0
                                                try clear hx151_0
                                                try clear hx15_0
                                                try clear hx20_0
                                                try clear hx26_0
                                                try clear p1
                                                try clear p14
                                                try clear p141
                                                try clear p149
                                                try clear p15
                                                try clear p150
                                                try clear p151
                                                try clear p2
                                                try clear p26
                                                try clear p6
                                                try clear q1
                                                try clear q14
                                                try clear q141
                                                try clear q149
                                                try clear q15
                                                try clear q150
                                                try clear q151
                                                try clear q2
                                                try clear q26
                                                try clear q27
                                                obtain ⟨kq, x16_36, x1000_36, x1001_36, rfl, HA, HJ36, HO_9, HI0, HK, HB⟩ := hcut
                                                cases kq with
                                                | zero => exact absurd HA.out (by simp [least_table_tails.j4])
                                                | succ kj36 =>
                                                  have H := HA.out
                                                  clear HA
                                                  simp only [least_table_tails.j4] at H
                                                  by_cases c43 : x16_36 = (-1)
                                                  · rw [if_pos c43] at H
                                                    have c43b0 : (x16_36 == (-1)) = true := beq_iff_eq.mpr c43
                                                    have c43b1 : (x16_36 != (-1)) = false := bne_eq_false_iff_eq.mpr c43
                                                    clear c43
                                                    have H' := Aside0.mk H
                                                    clear H
                                                    go_wp2
                                                    go_roundg kj36
                                                    case measure => have := HK1.out; have := HK2.out; have := HK3.out; have := HK4.out; have := HJ36.out; omega
                                                    case rel => exact ⟨(x13_4), (wrap64 (x14_4 + 1)), (x1000_36), (x1001_36), (by first | rfl | (simp; done) | (simp [*]; done)), (by first | rfl | (simp; done) | (simp [*]; done)), H', ⟨by have := HK1.out; have := HK2.out; have := HK3.out; have := HK4.out; have := HJ36.out; omega⟩, ⟨by (try simp only [hl9_1]); (try simp only [hl9_2]); (try simp only [hl9_3]); (with_reducible repeat (first | apply Kd.S_alloc | apply Kd.S_drewN | apply Kd.S_drew)); exact HO_9.out⟩, ⟨by repeat (first | (with_reducible first | exact HI0.out | apply IsS71.alloc | apply IsS71.drewN | apply IsS71.drew | apply IsS71.set_0 | apply IsS71.set_1) | exact HI0.out)⟩, ⟨by repeat (first | (with_reducible first | exact HK.out | apply KeepBut.set_ | apply keep_drewN | apply keep_drew | apply keep_alloc) | exact HK.out)⟩, ⟨by repeat (first | (with_reducible first | exact HB.out | apply below_alloc | apply pw_below_drewN | apply below_drew1 | refine below_set ?_ (IsS71.ge HI0.out)) | exact HB.out)⟩⟩
                                                  · rw [if_neg c43] at H
                                                    have c43b0 : (x16_36 == (-1)) = false := beq_eq_false_iff_ne.mpr c43
                                                    have c43b1 : (x16_36 != (-1)) = true := bne_iff_ne.mpr c43
                                                    obtain ⟨ji44, hji44⟩ : ∃ j_ : Int, (mn (wrap64 (x16_36 + (rd (rd_L2 x9_3 (ji32)) x14_4))) 1099511627776) = j_ := ⟨_, rfl⟩
                                                    replace H : (if x13_4 = (-1) then (least_table_tails.l3 kj36 l1 a2 a3 x9_3 x11_2 x12_3 ji44 (wrap64 (x14_4 + 1)) x1000_36 x1001_36 s0_2 s0_3 s0_4 s0_5 s0_6) else (if (ji44) < x13_4 then (least_table_tails.l3 kj36 l1 a2 a3 x9_3 x11_2 x12_3 ji44 (wrap64 (x14_4 + 1)) x1000_36 x1001_36 s0_2 s0_3 s0_4 s0_5 s0_6) else (least_table_tails.l3 kj36 l1 a2 a3 x9_3 x11_2 x12_3 x13_4 (wrap64 (x14_4 + 1)) x1000_36 x1001_36 s0_2 s0_3 s0_4 s0_5 s0_6))) = some (r1, r2, r3) := by first | (rw [hji44] at H; exact H) | (simp only [hji44] at H ⊢; exact H)
                                                    have hji44_ : (if 1099511627776 < (wrap64 (x16_36 + (rd (rd_L2 x9_3 (ji32)) x14_4))) then 1099511627776 else (wrap64 (x16_36 + (rd (rd_L2 x9_3 (ji32)) x14_4)))) = ji44 := hji44
                                                    by_cases c45 : x13_4 = (-1)
                                                    · rw [if_pos c45] at H
                                                      have c45b0 : (x13_4 == (-1)) = true := beq_iff_eq.mpr c45
                                                      have c45b1 : (x13_4 != (-1)) = false := bne_eq_false_iff_eq.mpr c45
                                                      clear c45
                                                      have H' := Aside0.mk H
                                                      clear H
                                                      go_wp2
                                                      go_roundg kj36
                                                      case measure => have := HK1.out; have := HK2.out; have := HK3.out; have := HK4.out; have := HJ36.out; omega
                                                      case rel => exact ⟨(ji44), (wrap64 (x14_4 + 1)), (x1000_36), (x1001_36), (by first | rfl | (simp; done) | (simp only [← hji44] <;> (first | rfl | simp)) | (simp [*]; done)), (by first | rfl | (simp; done) | (simp [*]; done)), H', ⟨by have := HK1.out; have := HK2.out; have := HK3.out; have := HK4.out; have := HJ36.out; omega⟩, ⟨by (try simp only [hl9_1]); (try simp only [hl9_2]); (try simp only [hl9_3]); (with_reducible repeat (first | apply Kd.S_alloc | apply Kd.S_drewN | apply Kd.S_drew)); exact HO_9.out⟩, ⟨by repeat (first | (with_reducible first | exact HI0.out | apply IsS71.alloc | apply IsS71.drewN | apply IsS71.drew | apply IsS71.set_0 | apply IsS71.set_1) | exact HI0.out)⟩, ⟨by repeat (first | (with_reducible first | exact HK.out | apply KeepBut.set_ | apply keep_drewN | apply keep_drew | apply keep_alloc) | exact HK.out)⟩, ⟨by repeat (first | (with_reducible first | exact HB.out | apply below_alloc | apply pw_below_drewN | apply below_drew1 | refine below_set ?_ (IsS71.ge HI0.out)) | exact HB.out)⟩⟩
                                                    · rw [if_neg c45] at H
                                                      have c45b0 : (x13_4 == (-1)) = false := beq_eq_false_iff_ne.mpr c45
                                                      have c45b1 : (x13_4 != (-1)) = true := bne_iff_ne.mpr c45
                                                      by_cases c46 : (ji44) < x13_4
                                                      · rw [if_pos c46] at H
                                                        have c46b0 : decide ((ji44) < x13_4) = true := decide_eq_true c46
                                                        clear c46
                                                        have H' := Aside0.mk H
                                                        clear H
                                                        go_wp2
                                                        go_roundg kj36
                                                        case measure => have := HK1.out; have := HK2.out; have := HK3.out; have := HK4.out; have := HJ36.out; omega
                                                        case rel => exact ⟨(ji44), (wrap64 (x14_4 + 1)), (x1000_36), (x1001_36), (by first | rfl | (simp; done) | (simp only [← hji44] <;> (first | rfl | simp)) | (simp [*]; done)), (by first | rfl | (simp; done) | (simp [*]; done)), H', ⟨by have := HK1.out; have := HK2.out; have := HK3.out; have := HK4.out; have := HJ36.out; omega⟩, ⟨by (try simp only [hl9_1]); (try simp only [hl9_2]); (try simp only [hl9_3]); (with_reducible repeat (first | apply Kd.S_alloc | apply Kd.S_drewN | apply Kd.S_drew)); exact HO_9.out⟩, ⟨by repeat (first | (with_reducible first | exact HI0.out | apply IsS71.alloc | apply IsS71.drewN | apply IsS71.drew | apply IsS71.set_0 | apply IsS71.set_1) | exact HI0.out)⟩, ⟨by repeat (first | (with_reducible first | exact HK.out | apply KeepBut.set_ | apply keep_drewN | apply keep_drew | apply keep_alloc) | exact HK.out)⟩, ⟨by repeat (first | (with_reducible first | exact HB.out | apply below_alloc | apply pw_below_drewN | apply below_drew1 | refine below_set ?_ (IsS71.ge HI0.out)) | exact HB.out)⟩⟩
                                                      · rw [if_neg c46] at H
                                                        have c46b0 : decide ((ji44) < x13_4) = false := decide_eq_false c46
                                                        clear c46
                                                        have H' := Aside0.mk H
                                                        clear H
                                                        go_wp2
                                                        go_roundg kj36
                                                        case measure => have := HK1.out; have := HK2.out; have := HK3.out; have := HK4.out; have := HJ36.out; omega
                                                        case rel => exact ⟨(x13_4), (wrap64 (x14_4 + 1)), (x1000_36), (x1001_36), (by first | rfl | (simp; done) | (simp [*]; done)), (by first | rfl | (simp; done) | (simp [*]; done)), H', ⟨by have := HK1.out; have := HK2.out; have := HK3.out; have := HK4.out; have := HJ36.out; omega⟩, ⟨by (try simp only [hl9_1]); (try simp only [hl9_2]); (try simp only [hl9_3]); (with_reducible repeat (first | apply Kd.S_alloc | apply Kd.S_drewN | apply Kd.S_drew)); exact HO_9.out⟩, ⟨by repeat (first | (with_reducible first | exact HI0.out | apply IsS71.alloc | apply IsS71.drewN | apply IsS71.drew | apply IsS71.set_0 | apply IsS71.set_1) | exact HI0.out)⟩, ⟨by repeat (first | (with_reducible first | exact HK.out | apply KeepBut.set_ | apply keep_drewN | apply keep_drew | apply keep_alloc) | exact HK.out)⟩, ⟨by repeat (first | (with_reducible first | exact HB.out | apply below_alloc | apply pw_below_drewN | apply below_drew1 | refine below_set ?_ (IsS71.ge HI0.out)) | exact HB.out)⟩⟩
                                            · rw [if_neg c36] at H
                                              exact absurd H (by simp)
                                          · rw [if_neg c35] at H
                                            exact absurd H (by simp)
                                        · rw [if_neg c34] at H
                                          exact absurd H (by simp)
                                      · rw [if_neg c33] at H
                                        exact absurd H (by simp)
                                    · rw [if_neg c31] at H
                                      have c31b0 : decide (x14_4 ≤ a3) = false := decide_eq_false c31
                                      clear c31
                                      by_cases c47 : 0 ≤ x11_2
                                      · rw [if_pos c47] at H
                                        have c47b0 : decide (0 ≤ x11_2) = true := decide_eq_true c47
                                        clear c47
                                        by_cases c48 : x11_2 < (x9_3.length : Int)
                                        · rw [if_pos c48] at H
                                          have c48b0 : decide (x11_2 < (x9_3.length : Int)) = true := decide_eq_true c48
                                          clear c48
                                          by_cases c49 : 0 ≤ x12_3
                                          · rw [if_pos c49] at H
                                            have c49b0 : decide (0 ≤ x12_3) = true := decide_eq_true c49
                                            clear c49
                                            by_cases c50 : x12_3 < ((rd_L2 x9_3 x11_2).length : Int)
                                            · rw [if_pos c50] at H
                                              have c50b0 : decide (x12_3 < ((rd_L2 x9_3 x11_2).length : Int)) = true := decide_eq_true c50
                                              clear c50
                                              obtain ⟨y146, hy146⟩ : ∃ y_ : List Int, y_ = ((rd_L2 x9_3 x11_2).set (x12_3 : Int).toNat x13_4) := ⟨_, rfl⟩
                                              replace H : (least_table_tails.l2 k4 l1 a2 a3 (x9_3.set (x11_2 : Int).toNat y146) x11_2 (wrap64 (x12_3 + 1)) x1000_4 x1001_4 s0_2 s0_3 s0_4 s0_5 s0_6) = some (r1, r2, r3) := by first | (rw [hy146]; with_reducible exact H) | (have H2_ := (Option.bind_some _ _).symm.trans H; rw [hy146]; with_reducible exact H2_) | (have H2_ := (Option.bind_some _ _).symm.trans H; with_reducible exact H2_) | with_reducible exact H | (rw [hy146]; exact H) | exact H
                                              have Ny146 := Aside0.mk hy146
                                              clear hy146
                                              obtain ⟨y148, hy148⟩ : ∃ y_ : List (List Int), y_ = (x9_3.set (x11_2 : Int).toNat y146) := ⟨_, rfl⟩
                                              replace H : (least_table_tails.l2 k4 l1 a2 a3 y148 x11_2 (wrap64 (x12_3 + 1)) x1000_4 x1001_4 s0_2 s0_3 s0_4 s0_5 s0_6) = some (r1, r2, r3) := by first | (rw [hy148]; with_reducible exact H) | (have H2_ := (Option.bind_some _ _).symm.trans H; rw [hy148]; with_reducible exact H2_) | (have H2_ := (Option.bind_some _ _).symm.trans H; with_reducible exact H2_) | with_reducible exact H | (rw [hy148]; exact H) | exact H
                                              have Ny148 := Aside0.mk hy148
                                              clear hy148
                                              have H' := Aside0.mk H
                                              clear H
                                              have p145 : 0 ≤ (x11_2 : Int) := of_decide_eq_true (by first | (with_reducible assumption) | assumption)
                                              have q145 : x11_2 < (x9_3.length : Int) := of_decide_eq_true (by first | (with_reducible assumption) | assumption)
                                              obtain ⟨ad145, A145_0, c145_0, e145, hx145_0, hl145_0, hi145_0⟩ := at_L2 (Kd.S_reads' HO_9.out).2.2 x11_2 p145 q145
                                              obtain rfl : ad141 = ad145 := (by injection e145)
                                              obtain ⟨ce145, hce145, hMe145, hcc145⟩ := Kd.S_get HO_9.out [] x11_2 p145 (by first | exact q145 | exact of_decide_eq_true (by first | (with_reducible assumption) | assumption) | (have e_ := (Kd.S_reads' HO_9.out).1; omega))
                                              obtain ⟨ve145_0, rfl, ge145_0⟩ := hMe145
                                              have hv145_0 := hcc145 0 _ rfl
                                              rw [Nat.add_zero, show ((Kd.slice 3 (Kd.int .i64))).sz = 1 from rfl, Nat.mul_one] at hv145_0
                                              replace hv145_0 := Option.some.inj (hv145_0.symm.trans hx145_0)
                                              rw [hv145_0] at ge145_0
                                              have HL145_0 := Aside0.mk (show Kd.R (Kd.int .i64) 3 _ _ _ _ (rd_L2 x9_3 x11_2) from ge145_0)
                                              clear hv145_0 ge145_0
                                              have HX145_0 := Aside0.mk hx145_0
                                              clear hcc145 hce145
                                              have HR145_0 := Aside0.mk hi145_0
                                              have HC145_0 := Aside0.mk hl145_0
                                              clear hi145_0 hl145_0
                                              replace p145 := eq_true p145
                                              replace q145 := eq_true q145
                                              have p51 : 0 ≤ (x12_3 : Int) := of_decide_eq_true (by first | (with_reducible assumption) | assumption)
                                              have q51 : (x12_3 : Int) < (((rd_L2 x9_3 x11_2).length : Int) : Int) := of_decide_eq_true (by first | (with_reducible assumption) | assumption)
                                              obtain ⟨go51, co51, eo51, gb51, gl51, cl51, HG51⟩ := Kd.R_form HL145_0.out (by omega)
                                              (first | cases eo51 | (injection eo51 with ea_ en_ ec_; (first | subst ea_ | (injection ea_ with ea_; subst ea_)); subst ec_; clear en_))
                                              have GB51 := Aside0.mk gb51
                                              have GG51 := Aside0.mk HG51
                                              clear gb51 gl51 HG51
                                              obtain ⟨hx51_0, hf51_0⟩ := Kd.R_celln 0 HL145_0.out (x12_3 : Int) p51 q51
                                              replace p51 := eq_true p51
                                              replace q51 := eq_true q51
                                              have hq52 : (x11_2 : Int) < (x9_3.length : Int) := (by have h_ : (x11_2 : Int) < ((x9_3.length : Int) : Int) := of_decide_eq_true (by first | (with_reducible assumption) | assumption); first | exact h_ | (have e_ := (Kd.S_reads' HO_9.out).1; omega) | simpa only [List.length_set, List.length_set] using h_)
                                              obtain ⟨oki52, ce52, hcl52, hM52, hcc52, hok52, hbk52⟩ := Kd.S_borrow HO_9.out [] (x11_2 : Int) (of_decide_eq_true (by first | (with_reducible assumption) | assumption)) hq52
                                              obtain ⟨ve52_0, rfl, ge52_0⟩ := hM52
                                              have hv52 := hcc52 0 _ rfl
                                              rw [Nat.add_zero, show ((Kd.slice 3 (Kd.int .i64))).sz = 1 from rfl, Nat.mul_one] at hv52
                                              replace hv52 := Option.some.inj (hv52.symm.trans HX145_0.out)
                                              subst hv52
                                              clear hcc52 hcl52
                                              replace ge52_0 := (show Kd.R (Kd.int .i64) 3 _ _ _ _ (rd_L2 x9_3 x11_2) from ge52_0)
                                              have HP52 := Kd.R_putg ge52_0 (x12_3 : Int) x13_4
                                              go_wp2_with (first | ((with_reducible refine gate_store (t := 3) (p := 99) rfl ?_); refine store_event (t := 3) (p := 99) (v := ?vo_w53) (w1 := (wr.setCell ⟨go51, (x12_3 : Int).toNat, none⟩ (.int .i64 x13_4))) ?hg ?ho ?hn ?hr ?_; (case ho => rfl); (case hg => rfl); (case hn => rfl); (case hr => first | (go_simp; done) | (go_simp; rfl)); intro w53 hw; have hg : wr.grownBy w53 (some go51) := (by rw [hw]; exact HP52.2); have hz_ : Kd.R (Kd.int .i64) 3 w53 w.heap.size oki52 (.slice (some ⟨go51, 0, none⟩) (rd_L2 x9_3 x11_2).length c145_0) y146 := (by rw [hw, Ny146.out]; exact HP52.1); have hp_ : Kd.S (Kd.slice 3 (Kd.int .i64)) 34 w53 w.heap.size (fun _ => True) (.slice (some ad141) x9_3.length co10) y148 := (by rw [Ny148.out]; exact hbk52 hg (fun k_ e_ => by injection e_ with e_; subst e_; exact ge52_0.1 _ rfl) (Kd.M_row hz_)); have hm_ := Kd.R_mono hz_ hok52; clear HP52 hbk52; have n0_ := Aside0.mk (hp_); have n1_ := Aside0.mk (IsS71.grown (by repeat (first | (with_reducible first | exact HI0.out | apply IsS71.alloc | apply IsS71.drewN | apply IsS71.drew | apply IsS71.set_0 | apply IsS71.set_1) | exact HI0.out)) hg (IsS71.own_ne HI0.out HL145_0.out (by decide))); have n2_ := Aside0.mk ((by rw [hw]; exact below_set (HB.out) (Nat.le_trans HL.out GB51.out) : Below w0.heap.size w0 w53)); have n3_ := Aside0.mk (KeepBut.trans (by repeat (first | (with_reducible first | exact HK.out | apply KeepBut.set_ | apply keep_drewN | apply keep_drew | apply keep_alloc) | exact HK.out)) (KeepBut.of_grown hg g) (Kd.R_base2 HL145_0.out)); have n4_ := Aside0.mk (hm_); have n5_ := Aside0.mk ((Kd.R_reads' hm_).2.1); clear HO_9; clear HI0; clear HB; clear HK; clear HL145_0; have HO_9 := n0_; have HI0 := n1_; have HB := n2_; have HK := n3_; have HL156 := n4_; have HC147 := n5_; clear n0_ n1_ n2_ n3_ n4_ n5_; clear hg hw hp_ hz_ hm_ hok52))
                                              (try simp only [← hl9_3])
                                              go_roundg k4
                                              case measure => have := HK1.out; have := HK2.out; have := HK3.out; have := HK4.out; omega
                                              case rel => exact ⟨(y148), (wrap64 (x12_3 + 1)), (x1000_4), (x1001_4), (by first | rfl | (simp; done) | (simp [*]; done)), H', ⟨by have := HK1.out; have := HK2.out; have := HK3.out; have := HK4.out; omega⟩, ⟨by (try simp only [hl9_1]); (try simp only [hl9_2]); (try simp only [hl9_3]); (with_reducible repeat (first | apply Kd.S_alloc | apply Kd.S_drewN | apply Kd.S_drew)); exact HO_9.out⟩, ⟨by repeat (first | (with_reducible first | exact HI0.out | apply IsS71.alloc | apply IsS71.drewN | apply IsS71.drew | apply IsS71.set_0 | apply IsS71.set_1) | exact HI0.out)⟩, ⟨by repeat (first | (with_reducible first | exact HK.out | apply KeepBut.set_ | apply keep_drewN | apply keep_drew | apply keep_alloc) | exact HK.out)⟩, ⟨by repeat (first | (with_reducible first | exact HB.out | apply below_alloc | apply pw_below_drewN | apply below_drew1 | refine below_set ?_ (IsS71.ge HI0.out)) | exact HB.out)⟩⟩
                                            · rw [if_neg c50] at H
                                              exact absurd H (by simp)
                                          · rw [if_neg c49] at H
                                            exact absurd H (by simp)
                                        · rw [if_neg c48] at H
                                          exact absurd H (by simp)
                                      · rw [if_neg c47] at H
                                        exact absurd H (by simp)
                              · rw [if_neg c30] at H
                                have c30b0 : decide (x12_3 ≤ a3) = false := decide_eq_false c30
                                clear c30
                                have H' := Aside0.mk H
                                clear H
                                go_wp2
                                (try simp only [← hl9_2, ← hl9_3])
                                go_roundg k3
                                case measure => have := HK1.out; have := HK2.out; have := HK3.out; omega
                                case rel => exact ⟨(x9_3), (wrap64 (x11_2 - 1)), (x1000_3), (x1001_3), (by first | rfl | (simp; done) | (simp [*]; done)), H', ⟨by have := HK1.out; have := HK2.out; have := HK3.out; omega⟩, ⟨by (try simp only [hl9_1]); (try simp only [hl9_2]); (try simp only [hl9_3]); (with_reducible repeat (first | apply Kd.S_alloc | apply Kd.S_drewN | apply Kd.S_drew)); exact HO_9.out⟩, ⟨by repeat (first | (with_reducible first | exact HI0.out | apply IsS71.alloc | apply IsS71.drewN | apply IsS71.drew | apply IsS71.set_0 | apply IsS71.set_1) | exact HI0.out)⟩, ⟨by repeat (first | (with_reducible first | exact HK.out | apply KeepBut.set_ | apply keep_drewN | apply keep_drew | apply keep_alloc) | exact HK.out)⟩, ⟨by repeat (first | (with_reducible first | exact HB.out | apply below_alloc | apply pw_below_drewN | apply below_drew1 | refine below_set ?_ (IsS71.ge HI0.out)) | exact HB.out)⟩⟩
                        · rw [if_neg c29] at H
                          have c29b0 : decide (0 ≤ x11_2) = false := decide_eq_false c29
                          clear c29
                          simp only [Option.some.injEq, Prod.mk.injEq] at H
                          obtain ⟨rfl, rfl, rfl⟩ := H
                          go_wp2
                          go_ret
                          exact ⟨_, by first | rfl | (simp [errW_none, errW_some] <;> rfl) | (simp only [← hji5]; first | rfl | (simp [errW_none, errW_some] <;> rfl)) | (simp [*, errW_none, errW_some] <;> rfl), by (with_reducible repeat (first | apply Kd.S_alloc | apply Kd.S_drewN | apply Kd.S_drew)); exact HO_9.out, by repeat (first | (with_reducible first | exact HI0.out | apply IsS71.alloc | apply IsS71.drewN | apply IsS71.drew | apply IsS71.set_0 | apply IsS71.set_1) | exact HI0.out), by repeat (first | (with_reducible first | exact HB.out | apply below_alloc | apply pw_below_drewN | apply below_drew1 | refine below_set ?_ (IsS71.ge HI0.out)) | exact HB.out), by repeat (first | (with_reducible first | exact HK.out | apply KeepBut.set_ | apply keep_drewN | apply keep_drew | apply keep_alloc) | exact HK.out)⟩
                  · rw [if_neg c25] at H
                    exact absurd H (by simp)
                · rw [if_neg c24] at H
                  exact absurd H (by simp)
              · rw [if_neg c23] at H
                exact absurd H (by simp)
            · rw [if_neg c22] at H
              exact absurd H (by simp)
    · rw [if_neg c7] at H
      exact absurd H (by simp)
  · rw [if_neg c6] at H
    exact absurd H (by simp)

end Go.Proofs.Ytnkpmogpmcggiaa
