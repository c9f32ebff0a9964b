/- What becomes of a spoilt frame, in plain Lean. -/
import Derived.Test.YtmmcigpbajlneaaDoorSpoil
import Derived.Test.YtmmcigpbajlneaaDoorWrapL
set_option linter.unusedVariables false
set_option linter.unusedSimpArgs false
namespace Go.Proofs.YtmmcigpbajlneaaDoor

theorem wrapL_reg (l : List Int) (hl : ∀ x ∈ l, 0 ≤ x ∧ x < 256) (h : l.length ≤ 1048576) : reg 4294967295 (wrapL l) = zst (zst (zst (zst 4294967295))) := by
  unfold wrapL
  rw [if_neg (by omega)]
  exact (sealed_iff (putL l.length ++ l) _ (fun x hx => (List.mem_append.1 hx).elim (putL_range _ x) (hl x)) (seal4_length _) (seal4_range _)).1 rfl

theorem openL_bad (l : List Int) (h : (openL l).2 ≠ 0) : (openL l).1 = [] := by
  unfold openL at h ⊢
  split at h
  · rename_i h0; rw [if_pos h0]
  rename_i h0; rw [if_neg h0]
  split at h
  · rename_i h1; rw [if_pos h1]
  rename_i h1; rw [if_neg h1]
  split at h
  · rename_i h2; rw [if_pos h2]
  rename_i h2; rw [if_neg h2]
  split at h
  · rename_i h3; rw [if_pos h3]
  rename_i h3; rw [if_neg h3]
  split at h
  · rename_i h4; rw [if_pos h4]
  rename_i h4; rw [if_neg h4]
  split at h
  · rename_i h5; rw [if_pos h5]
  · simp at h

theorem wrapL_mem (m : List Int) (h : m.length ≤ 1048576) (x : Int) (hx : x ∈ m) : x ∈ wrapL m := by
  unfold wrapL
  rw [if_neg (by omega)]
  simp [hx]
/-- A frame that was spoilt isn't opened. -/
theorem spoilt_shut (l : List Int) (hl : ∀ x ∈ l, 0 ≤ x ∧ x < 256) (h : l.length ≤ 1048576) (p : Nat) (y : Int) (hne : spoilTo (wrapL l) p y (p + 4) ≠ wrapL l) :
    (openL (spoilTo (wrapL l) p y (p + 4))).2 ≠ 0 := by
  intro h0
  have hr := wrapL_range l hl
  have hr2 := spoilTo_range (wrapL l) p y (p + 4) hr
  obtain ⟨e1, e2⟩ := wrapL_openL _ hr2 h0
  have hlr : ∀ x ∈ (openL (spoilTo (wrapL l) p y (p + 4))).1, 0 ≤ x ∧ x < 256 := by
    intro x hx
    have := wrapL_mem _ e2 x hx
    rw [← e1] at this
    exact hr2 x this
  have g1 := wrapL_reg _ hlr e2
  rw [← e1] at g1
  have g2 := wrapL_reg l hl h
  have hs := spoilTo_parts (wrapL l) p y
  have hw : wrapL l = (wrapL l).take p ++ ((wrapL l).drop p).take 4 ++ (wrapL l).drop (p + 4) := by
    conv => lhs; rw [← List.take_append_drop (p + 4) (wrapL l), List.take_add]
  apply hne
  generalize hA : ((spoilTo (wrapL l) p y (p + 4)).drop p).take 4 = A at *
  generalize hB : ((wrapL l).drop p).take 4 = B at *
  have hlA : A.length = B.length := by rw [← hA, ← hB]; simp [spoilTo_length]
  have hl4 : A.length ≤ 4 := by rw [← hA, List.length_take]; omega
  have rA : ∀ x ∈ A, 0 ≤ x ∧ x < 256 := fun x hx => hr2 x (by rw [← hA] at hx; exact List.mem_of_mem_drop (List.mem_of_mem_take hx))
  have rB : ∀ x ∈ B, 0 ≤ x ∧ x < 256 := fun x hx => hr x (by rw [← hB] at hx; exact List.mem_of_mem_drop (List.mem_of_mem_take hx))
  have rP : ∀ x ∈ (wrapL l).take p, 0 ≤ x ∧ x < 256 := fun x hx => hr x (List.mem_of_mem_take hx)
  have rT : ∀ x ∈ (wrapL l).drop (p + 4), 0 ≤ x ∧ x < 256 := fun x hx => hr x (List.mem_of_mem_drop hx)
  have hreg : reg 4294967295 ((wrapL l).take p ++ A ++ (wrapL l).drop (p + 4)) = reg 4294967295 ((wrapL l).take p ++ B ++ (wrapL l).drop (p + 4)) := by rw [← hs, ← hw, g1, g2]
  have := burst _ A B _ rP rA rB rT hlA hl4 hreg
  rw [hs, this, ← hw]

/-- A frame that was cut off is short. -/
theorem openL_cut (l : List Int) (h : l.length ≤ 1048576) (m : Nat) (hm : m < (wrapL l).length) : (openL ((wrapL l).take m)).2 = 3 := by
  have hw : wrapL l = putL l.length ++ (l ++ seal4 (putL l.length ++ l)) := by
    unfold wrapL
    rw [if_neg (by omega), List.append_assoc]
  have hlen : (wrapL l).length = (putL l.length).length + l.length + 4 := by rw [hw]; simp [seal4_length]; omega
  by_cases hk : (putL l.length).length ≤ m
  · have ht : (wrapL l).take m = putL l.length ++ (l ++ seal4 (putL l.length ++ l)).take (m - (putL l.length).length) := by
      rw [hw, List.take_append, List.take_of_length_le hk]
    have hg : getL ((wrapL l).take m) = ((l.length : Int), ((putL l.length).length : Int), 0) := by rw [ht]; exact getL_wrap l h _
    have hl2 : ((wrapL l).take m).length = m := by rw [List.length_take]; omega
    unfold openL
    rw [hg, hl2]
    simp only
    rw [if_neg (by decide), if_neg (by omega), if_neg (by omega), if_pos (by omega)]
  · have hp := putL_of (l.length : Int) (by omega)
    have hbl : blen l.length ≤ 3 := blen_le _ 3 (by omega)
    rw [Int.natAbs_natCast, if_neg (by omega)] at hp
    have hlb := be_length (blen l.length) l.length
    have hg : getL ((wrapL l).take m) = (0, 0, 3) := by
      rw [hw, hp]
      rw [hp, List.length_cons, hlb] at hk
      cases m with
      | zero => rfl
      | succ m =>
        rw [List.cons_append, List.take_succ_cons]
        have h1 : ((List.take m (be (blen l.length) l.length ++ (l ++ seal4 ((0 + (blen l.length : Int)) :: be (blen l.length) l.length ++ l)))).length : Int) = m := by
          rw [List.length_take, List.length_append, hlb]; omega
        generalize List.take m (be (blen l.length) l.length ++ (l ++ seal4 ((0 + (blen l.length : Int)) :: be (blen l.length) l.length ++ l))) = t at *
        unfold getL
        simp only
        rw [if_neg (by omega), if_pos (by omega)]
    unfold openL
    rw [hg]
    simp

/-- A frame with something behind it has a tail. -/
theorem openL_tail (l : List Int) (h : l.length ≤ 1048576) (t : List Int) (ht : t ≠ []) : (openL (wrapL l ++ t)).2 = 4 := by
  have hw : wrapL l = putL l.length ++ (l ++ seal4 (putL l.length ++ l)) := by
    unfold wrapL
    rw [if_neg (by omega), List.append_assoc]
  have hg : getL (wrapL l ++ t) = ((l.length : Int), ((putL l.length).length : Int), 0) := by rw [hw, List.append_assoc]; exact getL_wrap l h _
  have hlen : (wrapL l).length = (putL l.length).length + l.length + 4 := by rw [hw]; simp [seal4_length]; omega
  have ht2 : 0 < t.length := List.length_pos_iff.2 ht
  have hl2 : (wrapL l ++ t).length = (putL l.length).length + l.length + 4 + t.length := by rw [List.length_append, hlen]
  unfold openL
  rw [hg, hl2]
  simp only
  rw [if_neg (by decide), if_neg (by omega), if_neg (by omega), if_neg (by omega), if_pos (by omega)]
end Go.Proofs.YtmmcigpbajlneaaDoor
