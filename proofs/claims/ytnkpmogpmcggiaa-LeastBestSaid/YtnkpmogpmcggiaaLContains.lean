/- slices.ContainsFunc over whole numbers, whatever the predicate. -/
import Derived.Test.YtnkpmogpmcggiaaLKinds
import Derived.Lib.Hide
set_option linter.unusedVariables false
set_option linter.unusedSimpArgs false
namespace Go.Proofs.Ytnkpmogpmcggiaa
open Go.RowKit Go.Proofs.YtnkpmogpmcggiaaW.PrintWords Go.Proofs.YtnkpmogpmcggiaaW.PrintLast Go.Proofs.YtnkpmogpmcggiaaW.PrintMore

theorem index_func25 (u : Value) (p : Int → Bool) (A : Option Addr) (c : Nat) (l : List Int) (w : World) (hr : Kd.C (Kd.int .i64) w A l.length l)
    (hp : ∀ (W : World) (x : Int), Below w.heap.size w W → Calls Try.prog 25 #[.int .i64 x, u] W fun e w' => e = .returned (.bool (p x)) ∧ Below W.heap.size W w') :
    Calls Try.prog 37 #[.slice A l.length c, .func (.func 25) #[] #[u]] w fun e w' => (∃ i : Int, e = .returned (.int .i64 i) ∧ (decide (0 ≤ i) = l.any p)) ∧ Below w.heap.size w w' := by
  have HR := Lib.hid hr
  have HP := Lib.hid hp
  have hmax : l.length ≤ 9223372036854775807 := Kd.C_max hr
  clear hr hp
  go_enter Try.func37, Try.ntmps37
  go_wp2
  go_loopw [8] (fun i wr => ∃ k : Nat, k ≤ l.length ∧ i = .int .i64 k ∧ (l.take k).any p = false ∧ Below w.heap.size w wr) (fun i _ => l.length - (intOf i).toNat)
  case atStart => exact ⟨0, Nat.zero_le _, rfl, rfl, Below.refl _ _⟩
  case round =>
    obtain ⟨k, hk, rfl, hno, hnx⟩ := hrel
    have HB := Lib.hid hnx
    have HN := Lib.hid hno
    clear hnx hno
    by_cases hlt : k < l.length
    · obtain ⟨ad, rfl, hx⟩ := Kd.at_int (Kd.C_below HR.out HB.out) (k : Int) (by omega) (by omega)
      rw [Int.toNat_natCast] at hx
      have hk1 : l.take (k + 1) = l.take k ++ [rd l k] := by
        rw [List.take_succ_eq_append_getElem hlt]
        simp [rd, List.getD_eq_getElem?_getD, List.getElem?_eq_getElem hlt]
      have hmem : rd l k ∈ l := by
        have : rd l k = l[k] := by simp [rd, List.getD_eq_getElem?_getD, List.getElem?_eq_getElem hlt]
        rw [this]; exact List.getElem_mem hlt
      generalize rd l k = x at *
      have HK := Lib.hid hk1
      have HM := Lib.hid hmem
      clear hk1 hmem
      go_wp2_with fail
      refine (HP.out _ _ HB.out).mono ?_
      rintro e w' ⟨rfl, hb⟩
      have HB2 := Lib.hid (HB.out.trans (hb.mono HB.out.size))
      clear hb
      cases hpx : p x
      · have HX := Lib.hid hpx
        clear hpx
        go_wp2_with fail
        go_roundw
        case rel => exact ⟨k + 1, by omega, by go_num, by rw [HK.out, List.any_append, HN.out]; simp [HX.out], HB2.out⟩
        case measure => simp [intOf]; omega
      · have HX := Lib.hid hpx
        clear hpx
        go_wp2_with fail
        go_ret
        refine ⟨⟨_, rfl, ?_⟩, HB2.out⟩
        rw [decide_eq_true (by omega)]
        exact (List.any_eq_true.2 ⟨x, HM.out, HX.out⟩).symm
    · obtain rfl : k = l.length := by omega
      go_wp2_with fail
      go_ret
      refine ⟨⟨_, rfl, ?_⟩, HB.out⟩
      have := HN.out
      rw [List.take_length] at this
      rw [this]
      rfl

theorem contains_func25 (u : Value) (p : Int → Bool) (A : Option Addr) (c : Nat) (l : List Int) (w : World) (hr : Kd.C (Kd.int .i64) w A l.length l)
    (hp : ∀ (W : World) (x : Int), Below w.heap.size w W → Calls Try.prog 25 #[.int .i64 x, u] W fun e w' => e = .returned (.bool (p x)) ∧ Below W.heap.size W w') :
    Calls Try.prog 24 #[.slice A l.length c, .func (.func 25) #[] #[u]] w fun e w' => e = .returned (.bool (l.any p)) ∧ Below w.heap.size w w' := by
  have H := Lib.hid (index_func25 u p A c l w hr hp)
  clear hr hp
  go_enter Try.func24, Try.ntmps24
  go_wp2_with fail
  refine H.out.mono ?_
  rintro e w' ⟨⟨i, rfl, hi⟩, hb⟩
  have HI := Lib.hid hi
  clear hi
  go_wp2_with fail
  go_ret
  exact ⟨by rw [← HI.out]; rfl, hb⟩
theorem index_func31 (u : Value) (p : Int → Bool) (A : Option Addr) (c : Nat) (l : List Int) (w : World) (hr : Kd.C (Kd.int .i64) w A l.length l)
    (hp : ∀ (W : World) (x : Int), Below w.heap.size w W → Calls Try.prog 31 #[.int .i64 x, u] W fun e w' => e = .returned (.bool (p x)) ∧ Below W.heap.size W w') :
    Calls Try.prog 37 #[.slice A l.length c, .func (.func 31) #[] #[u]] w fun e w' => (∃ i : Int, e = .returned (.int .i64 i) ∧ (decide (0 ≤ i) = l.any p)) ∧ Below w.heap.size w w' := by
  have HR := Lib.hid hr
  have HP := Lib.hid hp
  have hmax : l.length ≤ 9223372036854775807 := Kd.C_max hr
  clear hr hp
  go_enter Try.func37, Try.ntmps37
  go_wp2
  go_loopw [8] (fun i wr => ∃ k : Nat, k ≤ l.length ∧ i = .int .i64 k ∧ (l.take k).any p = false ∧ Below w.heap.size w wr) (fun i _ => l.length - (intOf i).toNat)
  case atStart => exact ⟨0, Nat.zero_le _, rfl, rfl, Below.refl _ _⟩
  case round =>
    obtain ⟨k, hk, rfl, hno, hnx⟩ := hrel
    have HB := Lib.hid hnx
    have HN := Lib.hid hno
    clear hnx hno
    by_cases hlt : k < l.length
    · obtain ⟨ad, rfl, hx⟩ := Kd.at_int (Kd.C_below HR.out HB.out) (k : Int) (by omega) (by omega)
      rw [Int.toNat_natCast] at hx
      have hk1 : l.take (k + 1) = l.take k ++ [rd l k] := by
        rw [List.take_succ_eq_append_getElem hlt]
        simp [rd, List.getD_eq_getElem?_getD, List.getElem?_eq_getElem hlt]
      have hmem : rd l k ∈ l := by
        have : rd l k = l[k] := by simp [rd, List.getD_eq_getElem?_getD, List.getElem?_eq_getElem hlt]
        rw [this]; exact List.getElem_mem hlt
      generalize rd l k = x at *
      have HK := Lib.hid hk1
      have HM := Lib.hid hmem
      clear hk1 hmem
      go_wp2_with fail
      refine (HP.out _ _ HB.out).mono ?_
      rintro e w' ⟨rfl, hb⟩
      have HB2 := Lib.hid (HB.out.trans (hb.mono HB.out.size))
      clear hb
      cases hpx : p x
      · have HX := Lib.hid hpx
        clear hpx
        go_wp2_with fail
        go_roundw
        case rel => exact ⟨k + 1, by omega, by go_num, by rw [HK.out, List.any_append, HN.out]; simp [HX.out], HB2.out⟩
        case measure => simp [intOf]; omega
      · have HX := Lib.hid hpx
        clear hpx
        go_wp2_with fail
        go_ret
        refine ⟨⟨_, rfl, ?_⟩, HB2.out⟩
        rw [decide_eq_true (by omega)]
        exact (List.any_eq_true.2 ⟨x, HM.out, HX.out⟩).symm
    · obtain rfl : k = l.length := by omega
      go_wp2_with fail
      go_ret
      refine ⟨⟨_, rfl, ?_⟩, HB.out⟩
      have := HN.out
      rw [List.take_length] at this
      rw [this]
      rfl

theorem contains_func31 (u : Value) (p : Int → Bool) (A : Option Addr) (c : Nat) (l : List Int) (w : World) (hr : Kd.C (Kd.int .i64) w A l.length l)
    (hp : ∀ (W : World) (x : Int), Below w.heap.size w W → Calls Try.prog 31 #[.int .i64 x, u] W fun e w' => e = .returned (.bool (p x)) ∧ Below W.heap.size W w') :
    Calls Try.prog 24 #[.slice A l.length c, .func (.func 31) #[] #[u]] w fun e w' => e = .returned (.bool (l.any p)) ∧ Below w.heap.size w w' := by
  have H := Lib.hid (index_func31 u p A c l w hr hp)
  clear hr hp
  go_enter Try.func24, Try.ntmps24
  go_wp2_with fail
  refine H.out.mono ?_
  rintro e w' ⟨⟨i, rfl, hi⟩, hb⟩
  have HI := Lib.hid hi
  clear hi
  go_wp2_with fail
  go_ret
  exact ⟨by rw [← HI.out]; rfl, hb⟩
end Go.Proofs.Ytnkpmogpmcggiaa
