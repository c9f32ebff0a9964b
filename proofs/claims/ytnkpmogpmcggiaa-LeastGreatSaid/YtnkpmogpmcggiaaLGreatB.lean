/- The chain grammar's tree and its size. -/
import Derived.Test.YtnkpmogpmcggiaaLGreatA
import Derived.Test.YtnkpmogpmcggiaaLTreeL
import Derived.Test.YtnkpmogpmcggiaaLSize
set_option linter.unusedVariables false
set_option linter.unusedSimpArgs false
namespace Go.Proofs.Ytnkpmogpmcggiaa
open Go.RowKit Go.Proofs.YtnkpmogpmcggiaaW.PrintWords Go.Proofs.YtnkpmogpmcggiaaW.PrintLast Go.Proofs.YtnkpmogpmcggiaaW.PrintMore

def gTree : Nat → Nat → S30
  | 0, i => ⟨(i : Int), []⟩
  | h + 1, i => ⟨(i : Int), [gTree h (i + 1), gTree h (i + 1)]⟩
theorem rd_gP (m i : Nat) (h : i < m) : rd_T39 (gP m) (i : Int) = ⟨(i : Int), if i + 1 = m then [] else [(i : Int) + 1, (i : Int) + 1]⟩ := by
  unfold rd_T39 gP
  rw [Int.toNat_natCast, List.getD_eq_getElem?_getD, List.getElem?_map, List.getElem?_range h]
  rfl
theorem pow_le16 {h : Nat} (hh : h ≤ 16) : 2 ^ h ≤ 65536 := Nat.le_trans (Nat.pow_le_pow_right (by omega) hh) (by decide)
theorem one_le_pow (h : Nat) : 1 ≤ 2 ^ h := Nat.one_le_two_pow
theorem node16 (m i : Nat) (hi : i < m) (hm : m ≤ 16) : node (gT m) i 0 0 = ((2 ^ (m - i) : Nat) : Int) - 1 := by
  rw [gT_node m i hi]
  have h1 := pow_le16 (h := m - i) (by omega)
  have h2 := one_le_pow (m - i)
  generalize 2 ^ (m - i) = P at *
  omega
theorem tl_pair (m i : Nat) (hi : i + 1 < m) (hm : m ≤ 16) : tl [] (gT m) 0 [(i : Int) + 1, (i : Int) + 1] 0 = ((2 ^ (m - i) : Nat) : Int) - 2 := by
  have hn := node16 m (i + 1) hi hm
  have h1 := pow_le16 (h := m - (i + 1)) (by omega)
  have h2 := one_le_pow (m - (i + 1))
  have h3 : 2 ^ (m - i) = 2 ^ (m - (i + 1)) + 2 ^ (m - (i + 1)) := by
    rw [show m - i = (m - (i + 1)) + 1 by omega, Nat.pow_succ]; omega
  have ho : ofL [] (gT m) ((i : Int) + 1) 0 0 = ((2 ^ (m - (i + 1)) : Nat) : Int) - 1 := by
    unfold ofL
    rw [if_pos (by omega), show ((i : Int) + 1).toNat = i + 1 by omega, hn]
  rw [h3]
  generalize 2 ^ (m - (i + 1)) = P at *
  simp only [tl, bestFrom, bestStep, better, ho, top40]
  simp
  omega
theorem kids_pair (f : Int → Nat → Nat → Option S30) (N : Tab3) (s : Int) (t : S30) (h : f s 0 0 = some t) : kidsL f [] N 0 [s, s] 0 = some [t, t] := by
  have e : ∀ (a : Int) (g : Nat → Int), endL [] N s 0 a g 1 0 = 0 := fun a g => by
    unfold endL
    split
    · rfl
    · split
      · rfl
      · split <;> rfl
  simp only [kidsL, e, h, Option.bind_some]
theorem tree_chain (m : Nat) (hm : m ≤ 16) : ∀ (h i k : Nat), i + h + 1 = m → h + 1 ≤ k → treeL (gP m) [] (gT m) k (i : Int) 0 0 = some (gTree h i)
  | h, i, 0, _, hk => by omega
  | h, i, k + 1, hi, hk => by
    have hlt : i < m := by omega
    have hfind : (gP m).findIdx? (hitL [] (gT m) (i : Int) 0 0 (node (gT m) i 0 0)) = some i := by
      rw [List.findIdx?_eq_some_iff_getElem]
      have hlen : (gP m).length = m := by simp [gP]
      have hg : ∀ q (hq : q < (gP m).length), (gP m)[q] = ⟨(q : Int), if q + 1 = m then [] else [(q : Int) + 1, (q : Int) + 1]⟩ := fun q hq => by simp [gP]
      refine ⟨by omega, ?_, fun q hq => ?_⟩
      · rw [hg, node16 m i hlt hm]
        by_cases e : i + 1 = m
        · rw [if_pos e]
          have : m - i = 1 := by omega
          simp [hitL, tl, this]
        · rw [if_neg e]
          have h3 := tl_pair m i (by omega) hm
          have h2 : 4 ≤ 2 ^ (m - i) := Nat.le_trans (by decide) (Nat.pow_le_pow_right (by omega) (show 2 ≤ m - i by omega))
          simp only [hitL, h3, decide_true, Bool.true_and, Bool.and_eq_true, decide_eq_true_eq]
          generalize 2 ^ (m - i) = P at *
          omega
      · rw [hg]
        have : ((q : Int) = (i : Int)) = False := by simp; omega
        simp [hitL, this]
    unfold treeL
    rw [if_neg (by omega), Int.toNat_natCast, hfind]
    simp only
    rw [rd_gP m i hlt]
    cases h with
    | zero =>
      rw [if_pos (by omega)]
      rfl
    | succ h =>
      rw [if_neg (by omega)]
      simp only
      rw [kids_pair _ _ _ (gTree h (i + 1)) (by
        have := tree_chain m hm h (i + 1) k (by omega) (by omega)
        rw [← this]
        rfl)]
      rfl
theorem gTree_f0 (h i : Nat) : (gTree h i).f0 = (i : Int) := by cases h <;> rfl
theorem size_l0_end (k : Nat) (x4 x5 : Int) (l : List S30) (n x13 : Int) (h : ¬ x13 < n) : tree_Size.l0 (k + 1) x4 x5 l n x13 = some (x4, wrap64 (x5 + 1)) := by
  rw [tree_Size.l0, if_neg h]
theorem size_l0_step (k : Nat) (x4 x5 : Int) (l : List S30) (n x13 : Int) (h : x13 < n) (h0 : 0 ≤ x13) (h1 : x13 < (l.length : Int)) (t : S30) (ht : rd_T30 l x13 = t) (a b : Int) (hf : tree_Size.f k t.f0 t.f1 = some (a, b)) :
    tree_Size.l0 (k + 1) x4 x5 l n x13 = tree_Size.l0 k (wrap64 (x4 + a)) (mx x5 b) l n (wrap64 (x13 + 1)) := by
  rw [tree_Size.l0, if_pos h, if_pos h0, if_pos h1, ht, hf]
  rfl
theorem size_chain : ∀ (h i k : Nat), h ≤ 15 → 4 * h + 2 ≤ k → tree_Size.f k (gTree h i).f0 (gTree h i).f1 = some (((2 ^ (h + 1) : Nat) : Int) - 1, (h : Int) + 1)
  | 0, i, k, _, hk => by
    obtain ⟨k, rfl⟩ : ∃ d, k = d + 2 := ⟨k - 2, by omega⟩
    show tree_Size.f (k + 2) (i : Int) [] = _
    rw [tree_Size.f, size_l0_end _ _ _ _ _ _ (by simp), w64 (by omega) (by omega)]
    rfl
  | h + 1, i, k, hh, hk => by
    obtain ⟨k, rfl⟩ : ∃ d, k = d + 4 := ⟨k - 4, by omega⟩
    have ih1 := size_chain h (i + 1) (k + 2) (by omega) (by omega)
    have ih2 := size_chain h (i + 1) (k + 1) (by omega) (by omega)
    have hp := pow_le16 (h := h + 1) (by omega)
    have h1 := one_le_pow (h + 1)
    have e : 2 ^ (h + 1 + 1) = 2 ^ (h + 1) + 2 ^ (h + 1) := by rw [Nat.pow_succ]; omega
    rw [e]
    generalize 2 ^ (h + 1) = P at *
    show tree_Size.f (k + 4) (i : Int) [gTree h (i + 1), gTree h (i + 1)] = _
    rw [tree_Size.f, size_l0_step (k + 2) _ _ _ _ _ (by simp) (by decide) (by simp) (gTree h (i + 1)) rfl _ _ ih1,
      show wrap64 ((0 : Int) + 1) = 1 from w64 (by omega) (by omega), size_l0_step (k + 1) _ _ _ _ _ (by simp) (by decide) (by simp) (gTree h (i + 1)) rfl _ _ ih2,
      show wrap64 ((1 : Int) + 1) = 2 from w64 (by omega) (by omega), size_l0_end _ _ _ _ _ _ (by simp)]
    have m1 : mx 0 ((h : Int) + 1) = (h : Int) + 1 := by unfold mx; split <;> omega
    have m2 : mx ((h : Int) + 1) ((h : Int) + 1) = (h : Int) + 1 := by unfold mx; split <;> omega
    rw [m1, m2, w64 (x := 1 + ((P : Int) - 1)) (by omega) (by omega), w64 (x := 1 + ((P : Int) - 1) + ((P : Int) - 1)) (by omega) (by omega), w64 (x := (h : Int) + 1 + 1) (by omega) (by omega)]
    simp only [Option.some.injEq, Prod.mk.injEq]
    constructor <;> omega
end Go.Proofs.Ytnkpmogpmcggiaa
