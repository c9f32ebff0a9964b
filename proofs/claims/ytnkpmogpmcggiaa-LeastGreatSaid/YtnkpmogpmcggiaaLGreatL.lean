/- LeastGreat: its function answers true. -/
import Derived.Test.YtnkpmogpmcggiaaLGreatC
import Derived.Test.YtnkpmogpmcggiaaLGreat
set_option linter.unusedVariables false
set_option linter.unusedSimpArgs false
namespace Go.Proofs.Ytnkpmogpmcggiaa
open Go.RowKit Go.Proofs.YtnkpmogpmcggiaaW.PrintWords Go.Proofs.YtnkpmogpmcggiaaW.PrintLast Go.Proofs.YtnkpmogpmcggiaaW.PrintMore

theorem l0_step (m i k : Nat) (h0 : 10 ≤ m) (hm : m ≤ 41) (hi : i < m) : primerlaw15_LeastGreat.l0 (k + 1) (m : Int) (i : Int) 0 (m : Int) (gN i) dT ((gP m).take i) = primerlaw15_LeastGreat.l0 k (m : Int) ((i + 1 : Nat) : Int) 0 (m : Int) (gN (i + 1)) dT ((gP m).take (i + 1)) := by
  have e1 : wrap64 ((i : Int) + 1) = (i : Int) + 1 := w64 (by omega) (by omega)
  have e2 : wrap64 ((m : Int) - 1) = (m : Int) - 1 := w64 (by omega) (by omega)
  have e3 : ((i + 1 : Nat) : Int) = (i : Int) + 1 := by omega
  have hl : (gN i).length = i := by simp [gN]
  have hp : ((gP m).take i).length = i := by simp [gP]; omega
  have ht : (gP m).take (i + 1) = (gP m).take i ++ [⟨(i : Int), if i + 1 = m then [] else [(i : Int) + 1, (i : Int) + 1]⟩] := by
    rw [List.take_succ_eq_append_getElem (by simp [gP]; omega)]; simp [gP]
  have hn : gN (i + 1) = gN i ++ [gName i] := by simp [gN, List.range_succ]
  rw [primerlaw15_LeastGreat.l0, e1, e2, e3, hp, hl, ht, hn]
  clear e1 e2 hp hl ht hn
  rw [if_pos (by omega), if_pos (by omega), Option.bind_some]
  by_cases e : i + 1 = m
  · rw [if_pos (by omega), if_pos (by omega), if_pos e]; rfl
  · rw [if_neg (by omega), if_pos (by omega), if_neg e]; rfl
theorem loopG (m k : Nat) (h0 : 10 ≤ m) (hm : m ≤ 41) : ∀ (c i : Nat), i + c = m → primerlaw15_LeastGreat.l0 (k + c) (m : Int) (i : Int) 0 (m : Int) (gN i) dT ((gP m).take i) = primerlaw15_LeastGreat.l0 k (m : Int) (m : Int) 0 (m : Int) (gN m) dT (gP m)
  | 0, i, h => by
    obtain rfl : i = m := by omega
    rw [List.take_of_length_le (by simp [gP])]
    rfl
  | c + 1, i, h => by
    rw [show k + (c + 1) = (k + c) + 1 by omega, l0_step m i (k + c) h0 hm (by omega)]
    exact loopG m k h0 hm c (i + 1) (by omega)
theorem pow41 {m : Nat} (h0 : 10 ≤ m) (hm : m ≤ 41) : 1024 ≤ 2 ^ m ∧ 2 ^ m ≤ 2199023255552 :=
  ⟨Nat.le_trans (by decide) (Nat.pow_le_pow_right (by omega) h0), Nat.le_trans (Nat.pow_le_pow_right (by omega) hm) (by decide)⟩
theorem shl_pow (m : Nat) (h0 : 10 ≤ m) (hm : m ≤ 41) : shl .i64 1 (m : Int) = ((2 ^ m : Nat) : Int) := by
  have hp := pow41 h0 hm
  have e : min ((m : Int).toNat) IntKind.i64.bits = m := by
    rw [Int.toNat_natCast]; exact Nat.min_eq_left (Nat.le_trans hm (by decide))
  unfold shl
  rw [e, Int.one_mul, i64_w, show ((2 : Int) ^ m) = ((2 ^ m : Nat) : Int) by simp]
  generalize 2 ^ m = P at *
  exact w64 (by omega) (by omega)
theorem endG (m k : Nat) (h0 : 10 ≤ m) (hm : m ≤ 41) : primerlaw15_LeastGreat.l0 (k + 100) (m : Int) (m : Int) 0 (m : Int) (gN m) dT (gP m) = some true := by
  have hp := pow41 h0 hm
  have hl : (gN m).length = m := by simp [gN]
  have hN : ofL [] (fillL (gN m).length (gP m) []) 0 0 ([] : List Int).length = min (((2 ^ m - 1 : Nat)) : Int) 1099511627776 := by
    rw [hl, fill_all m h0 hm]
    have := gT_node m 0 (by omega)
    rw [Nat.sub_zero] at this
    exact this
  have hNo : least_Nodes.f 0 (m : Int) (gN m) dT (gP m) [] = some (min (((2 ^ m - 1 : Nat)) : Int) 1099511627776) := by
    unfold least_Nodes.f
    rw [if_pos (gSound m h0 hm), hN]
  have hw : wrap64 (((2 ^ m : Nat) : Int) - 1) = ((2 ^ m : Nat) : Int) - 1 := by
    clear hN hNo
    generalize 2 ^ m = P at *
    exact w64 (by omega) (by omega)
  have hmn : mn (((2 ^ m : Nat) : Int) - 1) 1099511627776 = min (((2 ^ m - 1 : Nat)) : Int) 1099511627776 := by
    clear hN hNo hw
    unfold mn
    generalize 2 ^ m = P at *
    split <;> omega
  rw [show k + 100 = (k + 99) + 1 by omega, primerlaw15_LeastGreat.l0, if_neg (by omega), if_pos (by omega), hNo, shl_pow m h0 hm, hw, hmn]
  by_cases hb : ((2 ^ m : Nat) : Int) - 1 > 65536
  · have hT : least_Tree.f 0 (m : Int) (gN m) dT (gP m) [] = some (0, [], 6) := by
      unfold least_Tree.f
      rw [if_pos (gSound m h0 hm), hN]
      clear hN hNo hw hmn
      generalize 2 ^ m = P at *
      rw [if_neg (by omega), if_pos (by omega)]
    rw [hT]
    simp only [Option.bind_some, if_true]
    rw [if_pos hb]
    rfl
  · have h16 : m ≤ 16 := by
      rcases Nat.lt_or_ge 16 m with h | h
      · exfalso
        have : 2 ^ 17 ≤ 2 ^ m := Nat.pow_le_pow_right (by omega) h
        have h17 : (2 : Nat) ^ 17 = 131072 := by decide
        rw [h17] at this
        clear hN hNo hw hmn
        generalize 2 ^ m = P at *
        omega
      · exact h
    have hT : least_Tree.f 0 (m : Int) (gN m) dT (gP m) [] = some ((gTree (m - 1) 0).f0, (gTree (m - 1) 0).f1, 0) := by
      have ht := tree_chain m h16 (m - 1) 0 70000 (by omega) (by omega)
      unfold least_Tree.f
      rw [if_pos (gSound m h0 hm), hN]
      rw [hl, fill_all m h0 hm]
      rw [if_neg (by clear hN hNo hw hmn ht; generalize 2 ^ m = P at *; omega), if_neg (by clear hN hNo hw hmn ht; generalize 2 ^ m = P at *; omega)]
      show (treeL (gP m) [] (gT m) 70000 ((0 : Nat) : Int) 0 0).bind _ = _
      rw [ht]
      rfl
    have hS := size_chain (m - 1) 0 (k + 99) (by omega) (by omega)
    rw [show m - 1 + 1 = m by omega] at hS
    rw [hT]
    simp only [Option.bind_some, if_true]
    rw [if_neg hb, hS]
    simp only [Option.bind_some, if_true]
    have : ((m - 1 : Nat) : Int) + 1 = (m : Int) := by omega
    rw [this]
    simp
theorem great_pure : primerlaw15_LeastGreat.Pure := by
  intro a0 _
  have hb : bits .and .i64 a0 31 = a0 % 32 := by
    have h7 : (BitVec.ofInt 64 31).toNat = 2 ^ 5 - 1 := by decide
    have key : (BitVec.ofInt 64 a0 &&& BitVec.ofInt 64 31).toNat = (a0 % ((2 ^ 64 : Nat) : Int)).toNat % 2 ^ 5 := by
      rw [BitVec.toNat_and, BitVec.toNat_ofInt, h7, Nat.and_two_pow_sub_one_eq_mod]
    show IntKind.i64.wrap ((BitVec.ofInt 64 a0 &&& BitVec.ofInt 64 31).toNat : Nat) = a0 % 32
    rw [key, IntKind.wrap_i64]
    omega
  obtain ⟨m, hm, h0, h1⟩ : ∃ m : Nat, wrap64 (10 + (Go.bits .and .i64 a0 31)) = (m : Int) ∧ 10 ≤ m ∧ m ≤ 41 := by
    rw [hb, w64 (by omega) (by omega)]
    exact ⟨(10 + a0 % 32).toNat, by omega, by omega, by omega⟩
  refine ⟨100 + m, ?_⟩
  unfold primerlaw15_LeastGreat.f primerlaw15_speaks.f
  rw [Option.bind_some, if_pos rfl, hm]
  have h := loopG m 100 h0 h1 m 0 (by omega)
  have he := endG m 0 h0 h1
  rw [Nat.zero_add] at he
  rw [he] at h
  exact h
end Go.Proofs.Ytnkpmogpmcggiaa
