/- The chain grammar's table. -/
import Derived.Test.YtnkpmogpmcggiaaLEval
import Derived.KernelRfl
set_option linter.unusedVariables false
set_option linter.unusedSimpArgs false
namespace Go.Proofs.Ytnkpmogpmcggiaa
open Go.RowKit Go.Proofs.YtnkpmogpmcggiaaW.PrintWords

/-- The chain's productions: each nonterminal is the next one twice, the last one is nothing. -/
def gP (m : Nat) : List S39 := (List.range m).map fun (i : Nat) => ⟨(i : Int), if i + 1 = m then [] else [(i : Int) + 1, (i : Int) + 1]⟩
/-- Its table for the empty word. -/
def gT (m : Nat) : Tab3 := (List.range m).map fun i => [[min (((2 ^ (m - i) - 1 : Nat)) : Int) 1099511627776]]
theorem gP_over (m : Nat) : ∀ x ∈ gP m, 0 ≤ x.f0 ∧ x.f0 < m ∧ ∀ s ∈ x.f1, s < m := by
  intro x hx
  simp only [gP, List.mem_map, List.mem_range] at hx
  obtain ⟨i, hi, rfl⟩ := hx
  refine ⟨by simp only; omega, by simp only; omega, fun s hs => ?_⟩
  simp only at hs
  split at hs
  · cases hs
  · simp at hs; omega
theorem fill10 : fillL 10 (gP 10) [] = gT 10 := fillO_eq (gP_over 10) 50 _ (by kernel_rfl)
theorem fill11 : fillL 11 (gP 11) [] = gT 11 := fillO_eq (gP_over 11) 50 _ (by kernel_rfl)
theorem fill12 : fillL 12 (gP 12) [] = gT 12 := fillO_eq (gP_over 12) 50 _ (by kernel_rfl)
theorem fill13 : fillL 13 (gP 13) [] = gT 13 := fillO_eq (gP_over 13) 50 _ (by kernel_rfl)
theorem fill14 : fillL 14 (gP 14) [] = gT 14 := fillO_eq (gP_over 14) 50 _ (by kernel_rfl)
theorem fill15 : fillL 15 (gP 15) [] = gT 15 := fillO_eq (gP_over 15) 50 _ (by kernel_rfl)
theorem fill16 : fillL 16 (gP 16) [] = gT 16 := fillO_eq (gP_over 16) 50 _ (by kernel_rfl)
theorem fill17 : fillL 17 (gP 17) [] = gT 17 := fillO_eq (gP_over 17) 50 _ (by kernel_rfl)
theorem fill18 : fillL 18 (gP 18) [] = gT 18 := fillO_eq (gP_over 18) 50 _ (by kernel_rfl)
theorem fill19 : fillL 19 (gP 19) [] = gT 19 := fillO_eq (gP_over 19) 50 _ (by kernel_rfl)
theorem fill20 : fillL 20 (gP 20) [] = gT 20 := fillO_eq (gP_over 20) 50 _ (by kernel_rfl)
theorem fill21 : fillL 21 (gP 21) [] = gT 21 := fillO_eq (gP_over 21) 50 _ (by kernel_rfl)
theorem fill22 : fillL 22 (gP 22) [] = gT 22 := fillO_eq (gP_over 22) 50 _ (by kernel_rfl)
theorem fill23 : fillL 23 (gP 23) [] = gT 23 := fillO_eq (gP_over 23) 50 _ (by kernel_rfl)
theorem fill24 : fillL 24 (gP 24) [] = gT 24 := fillO_eq (gP_over 24) 50 _ (by kernel_rfl)
theorem fill25 : fillL 25 (gP 25) [] = gT 25 := fillO_eq (gP_over 25) 50 _ (by kernel_rfl)
theorem fill26 : fillL 26 (gP 26) [] = gT 26 := fillO_eq (gP_over 26) 50 _ (by kernel_rfl)
theorem fill27 : fillL 27 (gP 27) [] = gT 27 := fillO_eq (gP_over 27) 50 _ (by kernel_rfl)
theorem fill28 : fillL 28 (gP 28) [] = gT 28 := fillO_eq (gP_over 28) 50 _ (by kernel_rfl)
theorem fill29 : fillL 29 (gP 29) [] = gT 29 := fillO_eq (gP_over 29) 50 _ (by kernel_rfl)
theorem fill30 : fillL 30 (gP 30) [] = gT 30 := fillO_eq (gP_over 30) 50 _ (by kernel_rfl)
theorem fill31 : fillL 31 (gP 31) [] = gT 31 := fillO_eq (gP_over 31) 50 _ (by kernel_rfl)
theorem fill32 : fillL 32 (gP 32) [] = gT 32 := fillO_eq (gP_over 32) 50 _ (by kernel_rfl)
theorem fill33 : fillL 33 (gP 33) [] = gT 33 := fillO_eq (gP_over 33) 50 _ (by kernel_rfl)
theorem fill34 : fillL 34 (gP 34) [] = gT 34 := fillO_eq (gP_over 34) 50 _ (by kernel_rfl)
theorem fill35 : fillL 35 (gP 35) [] = gT 35 := fillO_eq (gP_over 35) 50 _ (by kernel_rfl)
theorem fill36 : fillL 36 (gP 36) [] = gT 36 := fillO_eq (gP_over 36) 50 _ (by kernel_rfl)
theorem fill37 : fillL 37 (gP 37) [] = gT 37 := fillO_eq (gP_over 37) 50 _ (by kernel_rfl)
theorem fill38 : fillL 38 (gP 38) [] = gT 38 := fillO_eq (gP_over 38) 50 _ (by kernel_rfl)
theorem fill39 : fillL 39 (gP 39) [] = gT 39 := fillO_eq (gP_over 39) 50 _ (by kernel_rfl)
theorem fill40 : fillL 40 (gP 40) [] = gT 40 := fillO_eq (gP_over 40) 50 _ (by kernel_rfl)
theorem fill41 : fillL 41 (gP 41) [] = gT 41 := fillO_eq (gP_over 41) 50 _ (by kernel_rfl)
theorem fill_all (m : Nat) (h0 : 10 ≤ m) (h1 : m ≤ 41) : fillL m (gP m) [] = gT m := by
  obtain ⟨d, rfl⟩ : ∃ d, m = d + 10 := ⟨m - 10, by omega⟩
  have hd : d < 32 := by omega
  match d, hd with
  | 0, _ => exact fill10
  | 1, _ => exact fill11
  | 2, _ => exact fill12
  | 3, _ => exact fill13
  | 4, _ => exact fill14
  | 5, _ => exact fill15
  | 6, _ => exact fill16
  | 7, _ => exact fill17
  | 8, _ => exact fill18
  | 9, _ => exact fill19
  | 10, _ => exact fill20
  | 11, _ => exact fill21
  | 12, _ => exact fill22
  | 13, _ => exact fill23
  | 14, _ => exact fill24
  | 15, _ => exact fill25
  | 16, _ => exact fill26
  | 17, _ => exact fill27
  | 18, _ => exact fill28
  | 19, _ => exact fill29
  | 20, _ => exact fill30
  | 21, _ => exact fill31
  | 22, _ => exact fill32
  | 23, _ => exact fill33
  | 24, _ => exact fill34
  | 25, _ => exact fill35
  | 26, _ => exact fill36
  | 27, _ => exact fill37
  | 28, _ => exact fill38
  | 29, _ => exact fill39
  | 30, _ => exact fill40
  | 31, _ => exact fill41
  | d + 32, h => omega
theorem gT_node (m i : Nat) (h : i < m) : node (gT m) i 0 0 = min (((2 ^ (m - i) - 1 : Nat)) : Int) 1099511627776 := by
  have e : (gT m).getD i [] = [[min (((2 ^ (m - i) - 1 : Nat)) : Int) 1099511627776]] := by
    unfold gT
    rw [List.getD_eq_getElem?_getD, List.getElem?_map, List.getElem?_range h]
    rfl
  unfold node
  rw [e]
  rfl
end Go.Proofs.Ytnkpmogpmcggiaa
