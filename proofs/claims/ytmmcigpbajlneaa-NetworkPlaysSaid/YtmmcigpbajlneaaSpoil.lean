/- Bytes of which up to four in a row were turned, in plain Lean. -/
import Derived.Test.YtmmcigpbajlneaaOct
import Derived.Laws.BitsAllLaws
set_option linter.unusedVariables false
set_option linter.unusedSimpArgs false
namespace Go.Proofs.Ytmmcigpbajlneaa

/-- A byte of a number of four. -/
def byteAt (y : Int) (d : Nat) : Int := y / 256 ^ d % 256
/-- The bytes from p on, up to k, turned by the bytes of y. -/
def spoilTo (xs : List Int) (p : Nat) (y : Int) (k : Nat) : List Int := xs.mapIdx fun j x => if p ≤ j ∧ j < k then bits .xor .u8 x (byteAt y (j - p)) else x
theorem spoilTo_length (xs : List Int) (p : Nat) (y : Int) (k : Nat) : (spoilTo xs p y k).length = xs.length := by simp [spoilTo]
theorem spoilTo_start (xs : List Int) (p : Nat) (y : Int) : spoilTo xs p y p = xs := by
  apply List.ext_getElem
  · simp [spoilTo]
  · intro j h1 h2
    simp only [spoilTo, List.getElem_mapIdx]
    rw [if_neg (by omega)]
theorem spoilTo_at (xs : List Int) (p : Nat) (y : Int) (k : Nat) (x : Int) (h : xs[k]? = some x) : (spoilTo xs p y k)[k]? = some x := by
  simp [spoilTo, List.getElem?_mapIdx, h]
theorem spoilTo_succ (xs : List Int) (p : Nat) (y : Int) (k : Nat) (x : Int) (hp : p ≤ k) (h : xs[k]? = some x) : (spoilTo xs p y k).set k (bits .xor .u8 x (byteAt y (k - p))) = spoilTo xs p y (k + 1) := by
  obtain ⟨hk, rfl⟩ := List.getElem?_eq_some_iff.1 h
  apply List.ext_getElem
  · simp [spoilTo]
  · intro j h1 h2
    rw [List.getElem_set]
    simp only [spoilTo, List.getElem_mapIdx]
    by_cases e : k = j
    · subst e
      rw [if_pos rfl, if_pos ⟨hp, by omega⟩]
    · rw [if_neg e]
      by_cases e2 : p ≤ j ∧ j < k
      · rw [if_pos e2, if_pos (by omega)]
      · rw [if_neg e2, if_neg (by omega)]

theorem spoilTo_end (xs : List Int) (p : Nat) (y : Int) (k : Nat) (h : k = p + 4 ∨ xs.length ≤ k ∧ k ≤ p + 4) : spoilTo xs p y k = spoilTo xs p y (p + 4) := by
  rcases h with rfl | ⟨h1, h2⟩
  · rfl
  · apply List.ext_getElem
    · simp [spoilTo]
    · intro j h3 h4
      rw [spoilTo_length] at h3
      simp only [spoilTo, List.getElem_mapIdx]
      by_cases e : p ≤ j
      · rw [if_pos (by omega), if_pos (by omega)]
      · rw [if_neg (by omega), if_neg (by omega)]

theorem xor_u8_range (x b : Int) (h1 : 0 ≤ x) (h2 : x < 256) (h3 : 0 ≤ b) (h4 : b < 256) : 0 ≤ bits .xor .u8 x b ∧ bits .xor .u8 x b < 256 := by
  rw [u8_xor x b h1 h2 h3 h4]
  have : x.toNat ^^^ b.toNat < 2 ^ 8 := Nat.xor_lt_two_pow (by omega) (by omega)
  omega
theorem xor_u8_eq (x b : Int) (h1 : 0 ≤ x) (h2 : x < 256) (h3 : 0 ≤ b) (h4 : b < 256) : bits .xor .u8 x b = x ↔ b = 0 := by
  rw [u8_xor x b h1 h2 h3 h4]
  constructor
  · intro h
    have h5 : x.toNat ^^^ b.toNat = x.toNat := by omega
    have h6 : x.toNat ^^^ (x.toNat ^^^ b.toNat) = x.toNat ^^^ x.toNat := by rw [h5]
    rw [← Nat.xor_assoc, Nat.xor_self, Nat.zero_xor] at h6
    omega
  · intro h
    subst h
    simp
    omega
theorem byteAt_range (y : Int) (d : Nat) : 0 ≤ byteAt y d ∧ byteAt y d < 256 := by unfold byteAt; omega
theorem spoilTo_range (xs : List Int) (p : Nat) (y : Int) (k : Nat) (h : ∀ x ∈ xs, 0 ≤ x ∧ x < 256) : ∀ x ∈ spoilTo xs p y k, 0 ≤ x ∧ x < 256 := by
  intro x hx
  obtain ⟨j, hj, rfl⟩ := List.mem_iff_getElem.1 hx
  simp only [spoilTo, List.getElem_mapIdx]
  rw [spoilTo_length] at hj
  have h1 := h xs[j] (List.getElem_mem hj)
  have h2 := byteAt_range y (j - p)
  split
  · exact xor_u8_range _ _ h1.1 h1.2 h2.1 h2.2
  · exact h1
theorem spoilTo_take (xs : List Int) (p : Nat) (y : Int) (k : Nat) : (spoilTo xs p y k).take p = xs.take p := by
  apply List.ext_getElem
  · simp [spoilTo]
  · intro j h1 h2
    simp only [List.getElem_take, spoilTo, List.getElem_mapIdx]
    rw [List.length_take] at h2
    rw [if_neg (by omega)]
theorem spoilTo_drop (xs : List Int) (p : Nat) (y : Int) (k : Nat) : (spoilTo xs p y k).drop k = xs.drop k := by
  apply List.ext_getElem
  · simp [spoilTo]
  · intro j h1 h2
    simp only [List.getElem_drop, spoilTo, List.getElem_mapIdx]
    rw [if_neg (by omega)]
theorem spoilTo_parts (xs : List Int) (p : Nat) (y : Int) : spoilTo xs p y (p + 4) = xs.take p ++ ((spoilTo xs p y (p + 4)).drop p).take 4 ++ xs.drop (p + 4) := by
  conv => lhs; rw [← List.take_append_drop (p + 4) (spoilTo xs p y (p + 4)), spoilTo_drop, List.take_add, spoilTo_take]
theorem spoilTo_eq_iff (xs : List Int) (p : Nat) (y : Int) (k : Nat) (h : ∀ x ∈ xs, 0 ≤ x ∧ x < 256) : spoilTo xs p y k = xs ↔ ∀ j, p ≤ j → j < k → j < xs.length → byteAt y (j - p) = 0 := by
  constructor
  · intro e j h1 h2 h3
    have h4 : (spoilTo xs p y k)[j]'(by rw [spoilTo_length]; exact h3) = xs[j] := by simp only [e]
    simp only [spoilTo, List.getElem_mapIdx] at h4
    rw [if_pos ⟨h1, h2⟩] at h4
    have h5 := h xs[j] (List.getElem_mem h3)
    have h6 := byteAt_range y (j - p)
    exact (xor_u8_eq _ _ h5.1 h5.2 h6.1 h6.2).1 h4
  · intro e
    apply List.ext_getElem
    · simp [spoilTo]
    · intro j h1 h2
      simp only [spoilTo, List.getElem_mapIdx]
      by_cases e2 : p ≤ j ∧ j < k
      · rw [if_pos e2]
        have h5 := h xs[j] (List.getElem_mem h2)
        have h6 := byteAt_range y (j - p)
        exact (xor_u8_eq _ _ h5.1 h5.2 h6.1 h6.2).2 (e j e2.1 e2.2 h2)
      · rw [if_neg e2]
theorem spoilTo_flag (xs : List Int) (p : Nat) (y : Int) (k : Nat) (h : ∀ x ∈ xs, 0 ≤ x ∧ x < 256) (h1 : p ≤ k) (h2 : k < xs.length) :
    decide (spoilTo xs p y (k + 1) ≠ xs) = (decide (spoilTo xs p y k ≠ xs) || (byteAt y (k - p) != 0)) := by
  have e : spoilTo xs p y (k + 1) = xs ↔ spoilTo xs p y k = xs ∧ byteAt y (k - p) = 0 := by
    rw [spoilTo_eq_iff xs p y _ h, spoilTo_eq_iff xs p y _ h]
    constructor
    · intro hh
      exact ⟨fun j a b c => hh j a (by omega) c, hh k h1 (by omega) h2⟩
    · intro hh j a b c
      by_cases hj : j = k
      · subst hj; exact hh.2
      · exact hh.1 j a (by omega) c
  by_cases h3 : spoilTo xs p y k = xs <;> by_cases h4 : byteAt y (k - p) = 0 <;> simp [e, h3, h4]
end Go.Proofs.Ytmmcigpbajlneaa
