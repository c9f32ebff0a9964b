/- What a frame is, in plain Lean. -/
import Derived.Test.YtmmcigpbajlneaaDoorSeal
set_option linter.unusedVariables false
set_option linter.unusedSimpArgs false
namespace Go.Proofs.YtmmcigpbajlneaaDoor

/-- The frame of a body: none of one that is too long. -/
def wrapL (l : List Int) : List Int := if 1048576 < l.length then [] else putL l.length ++ l ++ seal4 (putL l.length ++ l)
/-- The body of a frame, and what is wrong. -/
def openL (l : List Int) : List Int × Int :=
  if (getL l).2.2 ≠ 0 then ([], (getL l).2.2)
  else if (getL l).1 < 0 then ([], 2)
  else if 1048576 < (getL l).1 then ([], 6)
  else if (l.length : Int) < (getL l).2.1 + (getL l).1 + 4 then ([], 3)
  else if (getL l).2.1 + (getL l).1 + 4 < (l.length : Int) then ([], 4)
  else if l.drop ((getL l).2.1 + (getL l).1).toNat ≠ seal4 (l.take ((getL l).2.1 + (getL l).1).toNat) then ([], 5)
  else ((l.drop (getL l).2.1.toNat).take (getL l).1.toNat, 0)
/-- Two results. -/
def tup2 (r : List Int × Int) : Value := .tuple #[.string (strOfNums r.1), .int .i64 r.2]

theorem wrapL_range (l : List Int) (hl : ∀ x ∈ l, 0 ≤ x ∧ x < 256) : ∀ x ∈ wrapL l, 0 ≤ x ∧ x < 256 := by
  intro x hx
  unfold wrapL at hx
  split at hx
  · cases hx
  · rcases List.mem_append.1 hx with hx | hx
    · rcases List.mem_append.1 hx with hx | hx
      · exact putL_range _ x hx
      · exact hl x hx
    · exact seal4_range _ x hx
/-- What the bytes of a number that was got are. -/
theorem getL_take {l : List Int} (hl : ∀ x ∈ l, 0 ≤ x ∧ x < 256) (h : (getL l).2.2 = 0) :
    l.take (getL l).2.1.toNat = putL (getL l).1 ∧ 1 ≤ (getL l).2.1 ∧ (getL l).2.1 ≤ 8 ∧ (getL l).2.1 ≤ l.length ∧ -9007199254740992 ≤ (getL l).1 ∧ (getL l).1 ≤ 9007199254740992 := by
  cases l with
  | nil => simp [getL] at h
  | cons a t =>
    have ha := hl a (by simp)
    have hg : getL (a :: t) = if 7 < a % 128 ∨ a = 128 then (0, 0, 2) else if (t.length : Int) < a % 128 then (0, 0, 3) else if 9007199254740992 < beVal (t.take (a % 128).toNat) ∨ (0 < a % 128 ∧ t.head? = some 0) then (0, 0, 2)
        else (if 127 < a then -beVal (t.take (a % 128).toNat) else beVal (t.take (a % 128).toNat), a % 128 + 1, 0) := rfl
    by_cases h1 : 7 < a % 128 ∨ a = 128
    · rw [hg, if_pos h1] at h; simp at h
    by_cases h2 : (t.length : Int) < a % 128
    · rw [hg, if_neg h1, if_pos h2] at h; simp at h
    by_cases h3 : 9007199254740992 < beVal (t.take (a % 128).toNat) ∨ (0 < a % 128 ∧ t.head? = some 0)
    · rw [hg, if_neg h1, if_neg h2, if_pos h3] at h; simp at h
    rw [if_neg h1, if_neg h2, if_neg h3] at hg
    have hp := (put_iff_get a t hl h1 h2).2 h3
    have hb := beVal_bound (t.take (a % 128).toNat) (fun x hx => hl x (by simp [List.mem_of_mem_take hx]))
    rw [hg]
    simp only
    generalize beVal (t.take (a % 128).toNat) = V at *
    refine ⟨?_, by omega, by omega, by rw [List.length_cons]; omega, by split <;> omega, by split <;> omega⟩
    rw [hp, show (a % 128 + 1).toNat = (a % 128).toNat + 1 by omega]

theorem getL_wrap (l : List Int) (h : l.length ≤ 1048576) (rest : List Int) : getL (putL l.length ++ rest) = ((l.length : Int), ((putL l.length).length : Int), 0) := getL_putL _ (by omega) _

/-- A frame opens to its body. -/
theorem openL_wrapL (l : List Int) (h : l.length ≤ 1048576) : openL (wrapL l) = (l, 0) := by
  have hw : wrapL l = putL l.length ++ (l ++ seal4 (putL l.length ++ l)) := by
    unfold wrapL
    rw [if_neg (by omega), List.append_assoc]
  have hg : getL (wrapL l) = ((l.length : Int), ((putL l.length).length : Int), 0) := by rw [hw]; exact getL_wrap l h _
  have hlen : (wrapL l).length = (putL l.length).length + l.length + 4 := by rw [hw]; simp [seal4_length]; omega
  unfold openL
  rw [hg]
  simp only
  rw [if_neg (by decide), if_neg (by omega), if_neg (by omega), if_neg (by omega), if_neg (by omega)]
  have e1 : (((putL l.length).length : Int) + (l.length : Int)).toNat = (putL l.length ++ l).length := by simp; omega
  have hw2 : wrapL l = (putL l.length ++ l) ++ seal4 (putL l.length ++ l) := by rw [hw, List.append_assoc]
  rw [e1, hw2, List.drop_left, List.take_left, if_neg (by simp), List.append_assoc, Int.toNat_natCast, Int.toNat_natCast, List.drop_left, List.take_left]

/-- What opens to a body is the body's frame. -/
theorem wrapL_openL (l : List Int) (hl : ∀ x ∈ l, 0 ≤ x ∧ x < 256) (h : (openL l).2 = 0) : l = wrapL (openL l).1 ∧ (openL l).1.length ≤ 1048576 := by
  unfold openL at h ⊢
  by_cases h0 : (getL l).2.2 ≠ 0
  · rw [if_pos h0] at h; exact absurd h h0
  rw [if_neg h0] at h ⊢
  by_cases h1 : (getL l).1 < 0
  · rw [if_pos h1] at h; simp at h
  rw [if_neg h1] at h ⊢
  by_cases h2 : 1048576 < (getL l).1
  · rw [if_pos h2] at h; simp at h
  rw [if_neg h2] at h ⊢
  by_cases h3 : (l.length : Int) < (getL l).2.1 + (getL l).1 + 4
  · rw [if_pos h3] at h; simp at h
  rw [if_neg h3] at h ⊢
  by_cases h4 : (getL l).2.1 + (getL l).1 + 4 < (l.length : Int)
  · rw [if_pos h4] at h; simp at h
  rw [if_neg h4] at h ⊢
  by_cases h5 : l.drop ((getL l).2.1 + (getL l).1).toNat ≠ seal4 (l.take ((getL l).2.1 + (getL l).1).toNat)
  · rw [if_pos h5] at h; simp at h
  rw [if_neg h5]
  simp only [ne_eq, Classical.not_not] at h0 h5
  obtain ⟨t1, t2, t3, t4, t5, t6⟩ := getL_take hl h0
  generalize getL l = g at *
  obtain ⟨n, k, e⟩ := g
  simp only at *
  have hlen : ((l.drop k.toNat).take n.toNat).length = n.toNat := by simp; omega
  have hcut : l.take (k + n).toNat = l.take k.toNat ++ (l.drop k.toNat).take n.toNat := by
    rw [show (k + n).toNat = k.toNat + n.toNat by omega, List.take_add]
  refine ⟨?_, by omega⟩
  unfold wrapL
  rw [if_neg (by omega), hlen, show ((n.toNat : Nat) : Int) = n by omega, ← t1, ← hcut, ← h5, List.take_append_drop]
end Go.Proofs.YtmmcigpbajlneaaDoor
