/- The table of least nodes in plain words: one round over the productions, filling. -/
import Derived.Test.YtnkpmogpmcggiaaLKinds
set_option linter.unusedVariables false
set_option linter.unusedSimpArgs false
namespace Go.Proofs.Ytnkpmogpmcggiaa
open Go.RowKit Go.Proofs.YtnkpmogpmcggiaaW.PrintWords

abbrev Tab3 := List (List (List Int))
def node (N : Tab3) (a i j : Nat) : Int := ((N.getD a []).getD i []).getD j 0
def top40 : Int := 1099511627776
def ofL (word : List Int) (N : Tab3) (s : Int) (i j : Nat) : Int :=
  if 0 ≤ s then node N s.toNat i j else if j = i + 1 ∧ word.getD i 0 = -1 - s then 1 else -1
def better (b n : Int) : Int := if b = -1 ∨ n < b then n else b
def bestStep (own rest : Nat → Int) (j : Nat) (b : Int) : Int := if rest j = -1 ∨ own j = -1 then b else better b (min (own j + rest j) top40)
def bestFrom (own rest : Nat → Int) : Nat → Nat → Int → Int
  | 0, _, b => b
  | c + 1, j, b => bestFrom own rest c (j + 1) (bestStep own rest j b)
def tl (word : List Int) (N : Tab3) (z : Nat) : List Int → Nat → Int
  | [], i => if i = z then 0 else -1
  | s :: r, i => bestFrom (ofL word N s i) (tl word N z r) (z + 1 - i) i (-1)
def setNode (N : Tab3) (a i j : Nat) (n : Int) : Tab3 := N.set a ((N.getD a []).set i (((N.getD a []).getD i []).set j n))
def stepL (word : List Int) (i j : Nat) (st : Tab3 × Bool) (x : S39) : Tab3 × Bool :=
  if tl word st.1 j x.f1 i = -1 then st
  else if node st.1 x.f0.toNat i j = -1 ∨ min (tl word st.1 j x.f1 i + 1) top40 < node st.1 x.f0.toNat i j then (setNode st.1 x.f0.toNat i j (min (tl word st.1 j x.f1 i + 1) top40), true) else st
def roundL (prods : List S39) (word : List Int) (i j : Nat) (N : Tab3) : Tab3 × Bool := prods.foldl (stepL word i j) (N, false)

/-- The table's sides, and what its numbers may be. -/
structure Dim (L n : Nat) (N : Tab3) : Prop where
  len : N.length = n
  mid : ∀ a, a < n → (N.getD a []).length = L + 1
  row : ∀ a, a < n → ∀ i, i ≤ L → ((N.getD a []).getD i []).length = L + 1
  val : ∀ a, a < n → ∀ i, i ≤ L → ∀ j, j ≤ L → -1 ≤ node N a i j ∧ node N a i j ≤ top40

theorem getD_set_same {α : Type} (l : List α) (i : Nat) (x d : α) (h : i < l.length) : (l.set i x).getD i d = x := by
  simp [List.getD_eq_getElem?_getD, h]
theorem getD_set_ne {α : Type} (l : List α) (i j : Nat) (x d : α) (h : i ≠ j) : (l.set i x).getD j d = l.getD j d := by
  simp [List.getD_eq_getElem?_getD, List.getElem?_set_ne h]

theorem node_setNode {L n : Nat} {N : Tab3} (h : Dim L n N) {a i j : Nat} (ha : a < n) (hi : i ≤ L) (hj : j ≤ L) (v : Int) (a' i' j' : Nat) :
    node (setNode N a i j v) a' i' j' = if a' = a ∧ i' = i ∧ j' = j then v else node N a' i' j' := by
  unfold node setNode
  have h1 := h.len
  have h2 := h.mid a ha
  have h3 := h.row a ha i hi
  by_cases e1 : a' = a
  · subst e1
    rw [getD_set_same _ _ _ _ (by omega)]
    by_cases e2 : i' = i
    · subst e2
      rw [getD_set_same _ _ _ _ (by omega)]
      by_cases e3 : j' = j
      · subst e3
        rw [getD_set_same _ _ _ _ (by omega), if_pos ⟨rfl, rfl, rfl⟩]
      · rw [getD_set_ne _ _ _ _ _ (by omega), if_neg (by omega)]
    · rw [getD_set_ne _ _ _ _ _ (by omega), if_neg (by omega)]
  · rw [getD_set_ne _ _ _ _ _ (by omega), if_neg (by omega)]

theorem Dim.setNode {L n : Nat} {N : Tab3} (h : Dim L n N) {a i j : Nat} (ha : a < n) (hi : i ≤ L) (hj : j ≤ L) {v : Int} (h0 : -1 ≤ v) (h1 : v ≤ top40) : Dim L n (setNode N a i j v) := by
  have e1 := h.len
  refine ⟨by rw [Go.Proofs.Ytnkpmogpmcggiaa.setNode, List.length_set]; exact h.len, fun a' ha' => ?_, fun a' ha' i' hi' => ?_, fun a' ha' i' hi' j' hj' => ?_⟩
  · unfold Go.Proofs.Ytnkpmogpmcggiaa.setNode
    by_cases e : a = a'
    · subst e; rw [getD_set_same _ _ _ _ (by omega), List.length_set]; exact h.mid _ ha'
    · rw [getD_set_ne _ _ _ _ _ e]; exact h.mid _ ha'
  · unfold Go.Proofs.Ytnkpmogpmcggiaa.setNode
    by_cases e : a = a'
    · subst e
      rw [getD_set_same _ _ _ _ (by omega)]
      by_cases e2 : i = i'
      · subst e2; rw [getD_set_same _ _ _ _ (by rw [h.mid _ ha']; omega), List.length_set]; exact h.row _ ha' _ hi'
      · rw [getD_set_ne _ _ _ _ _ e2]; exact h.row _ ha' _ hi'
    · rw [getD_set_ne _ _ _ _ _ e]; exact h.row _ ha' _ hi'
  · rw [node_setNode h ha hi hj]
    split
    · exact ⟨h0, h1⟩
    · exact h.val _ ha' _ hi' _ hj'

theorem ofL_bounds {L n : Nat} {N : Tab3} (h : Dim L n N) (word : List Int) (s : Int) (hs : s < n) (i j : Nat) (hi : i ≤ L) (hj : j ≤ L) : -1 ≤ ofL word N s i j ∧ ofL word N s i j ≤ top40 := by
  unfold ofL
  split
  · exact h.val _ (by omega) _ hi _ hj
  · unfold top40; split <;> omega
theorem better_bounds {b n : Int} (h0 : -1 ≤ b) (h1 : b ≤ top40) (h2 : 0 ≤ n) (h3 : n ≤ top40) : -1 ≤ better b n ∧ better b n ≤ top40 := by
  unfold better; split <;> omega
theorem bestFrom_bounds {own rest : Nat → Int} {z : Nat} (ho : ∀ j, j ≤ z → -1 ≤ own j) (hr : ∀ j, j ≤ z → -1 ≤ rest j) : ∀ (c j : Nat) (b : Int), j + c ≤ z + 1 → -1 ≤ b → b ≤ top40 → -1 ≤ bestFrom own rest c j b ∧ bestFrom own rest c j b ≤ top40
  | 0, _, _, _, h0, h1 => ⟨h0, h1⟩
  | c + 1, j, b, hj, h0, h1 => by
    unfold bestFrom
    have e1 := ho j (by omega)
    have e2 := hr j (by omega)
    have : -1 ≤ bestStep own rest j b ∧ bestStep own rest j b ≤ top40 := by
      unfold bestStep
      split
      · exact ⟨h0, h1⟩
      · exact better_bounds h0 h1 (by unfold top40; omega) (by omega)
    exact bestFrom_bounds ho hr c (j + 1) _ (by omega) this.1 this.2
theorem tl_bounds {L n : Nat} {N : Tab3} (h : Dim L n N) (word : List Int) (z : Nat) (hz : z ≤ L) : ∀ (syms : List Int), (∀ s ∈ syms, s < n) → ∀ i, i ≤ z → -1 ≤ tl word N z syms i ∧ tl word N z syms i ≤ top40
  | [], _, i, _ => by unfold tl top40; split <;> omega
  | s :: r, hs, i, hi => by
    unfold tl
    exact bestFrom_bounds (z := z) (fun j hj => (ofL_bounds h word s (hs s (by simp)) i j (by omega) (by omega)).1) (fun j hj => (tl_bounds h word z hz r (fun q hq => hs q (by simp [hq])) j hj).1) _ _ _ (by omega) (by omega) (by unfold top40; omega)

theorem stepL_dim {L n : Nat} {word : List Int} {i j : Nat} (hij : i ≤ j) (hj : j ≤ L) {st : Tab3 × Bool} (h : Dim L n st.1) (x : S39) (h0 : 0 ≤ x.f0) (h1 : x.f0 < n) (hs : ∀ s ∈ x.f1, s < n) : Dim L n (stepL word i j st x).1 := by
  unfold stepL
  have hb := tl_bounds h word j hj x.f1 hs i hij
  split
  · exact h
  · split
    · exact h.setNode (by omega) (by omega) hj (by unfold top40; omega) (by omega)
    · exact h
theorem roundL_take (prods : List S39) (word : List Int) (i j : Nat) (N : Tab3) (k : Nat) (hk : k < prods.length) : roundL (prods.take (k + 1)) word i j N = stepL word i j (roundL (prods.take k) word i j N) prods[k] := by
  unfold roundL
  rw [List.take_succ_eq_append_getElem hk, List.foldl_append]
  rfl
theorem roundL_dim {L n : Nat} {word : List Int} {i j : Nat} (hij : i ≤ j) (hj : j ≤ L) : ∀ (prods : List S39) (st : Tab3 × Bool), Dim L n st.1 → (∀ x ∈ prods, 0 ≤ x.f0 ∧ x.f0 < n ∧ ∀ s ∈ x.f1, s < n) → Dim L n (prods.foldl (stepL word i j) st).1
  | [], _, h, _ => h
  | x :: r, st, h, hx => roundL_dim hij hj r _ (stepL_dim hij hj h x (hx x (by simp)).1 (hx x (by simp)).2.1 (hx x (by simp)).2.2) (fun y hy => hx y (by simp [hy]))
end Go.Proofs.Ytnkpmogpmcggiaa
