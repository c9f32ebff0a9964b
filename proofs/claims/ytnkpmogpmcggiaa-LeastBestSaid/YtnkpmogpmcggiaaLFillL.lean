/- Filling the table, in plain words. -/
import Derived.Test.YtnkpmogpmcggiaaLPlain
set_option linter.unusedVariables false
set_option linter.unusedSimpArgs false
namespace Go.Proofs.Ytnkpmogpmcggiaa
open Go.RowKit Go.Proofs.YtnkpmogpmcggiaaW.PrintWords

/-- How great a cell counts. -/
def big (x : Int) : Nat := if x = -1 then 1099511627778 else x.toNat
def mu (n : Nat) (N : Tab3) (i j : Nat) : Nat := ((List.range n).map fun a => big (node N a i j)).sum

theorem sum_lt {n : Nat} {f g : Nat → Nat} (h : ∀ a, a < n → f a ≤ g a) (b : Nat) (hb : b < n) (hl : f b < g b) : ((List.range n).map f).sum < ((List.range n).map g).sum := by
  induction n with
  | zero => omega
  | succ n ih =>
    rw [List.range_succ, List.map_append, List.map_append, List.sum_append, List.sum_append]
    simp only [List.map_cons, List.map_nil, List.sum_cons, List.sum_nil]
    have h1 := h n (by omega)
    have h2 : ((List.range n).map f).sum ≤ ((List.range n).map g).sum := by
      clear ih h1 hl hb
      induction n with
      | zero => simp
      | succ m ihm =>
        rw [List.range_succ, List.map_append, List.map_append, List.sum_append, List.sum_append]
        simp only [List.map_cons, List.map_nil, List.sum_cons, List.sum_nil]
        have := h m (by omega)
        have := ihm (fun a ha => h a (by omega))
        omega
    by_cases e : b = n
    · subst e; omega
    · have := ih (fun a ha => h a (by omega)) (by omega)
      omega

/-- A step leaves the table, or lowers one cell of the part. -/
theorem stepL_or {L n : Nat} {word : List Int} {i j : Nat} (hij : i ≤ j) (hj : j ≤ L) {st : Tab3 × Bool} (hD : Dim L n st.1) (x : S39) (h0 : 0 ≤ x.f0) (h1 : x.f0 < n) (hs : ∀ s ∈ x.f1, s < n) :
    stepL word i j st x = st ∨ ((stepL word i j st x).2 = true ∧ mu n (stepL word i j st x).1 i j < mu n st.1 i j) := by
  unfold stepL
  have hb := tl_bounds hD word j hj x.f1 hs i hij
  split
  · exact .inl rfl
  · rename_i c0
    split
    · rename_i c1
      refine .inr ⟨rfl, ?_⟩
      unfold mu
      have hv := hD.val x.f0.toNat (by omega) i (by omega) j hj
      refine sum_lt (fun a ha => ?_) x.f0.toNat (by omega) ?_
      · rw [node_setNode hD (by omega) (by omega) hj]
        split
        · rename_i c2
          obtain ⟨rfl, _⟩ := c2
          unfold big
          rw [if_neg (by unfold top40 at *; omega)]
          unfold top40 at *
          rcases c1 with c1 | c1
          · rw [if_pos c1]; omega
          · split <;> omega
        · exact Nat.le_refl _
      · rw [node_setNode hD (by omega) (by omega) hj, if_pos ⟨rfl, rfl, rfl⟩]
        unfold big
        unfold top40 at *
        rw [if_neg (by omega)]
        rcases c1 with c1 | c1
        · rw [if_pos c1]; omega
        · by_cases c3 : node st.1 x.f0.toNat i j = -1
          · rw [if_pos c3]; omega
          · rw [if_neg c3]; omega
    · exact .inl rfl

theorem roundL_or {L n : Nat} {word : List Int} {i j : Nat} (hij : i ≤ j) (hj : j ≤ L) : ∀ (prods : List S39) (st : Tab3 × Bool), Dim L n st.1 → (∀ x ∈ prods, 0 ≤ x.f0 ∧ x.f0 < n ∧ ∀ s ∈ x.f1, s < n) →
    prods.foldl (stepL word i j) st = st ∨ ((prods.foldl (stepL word i j) st).2 = true ∧ mu n (prods.foldl (stepL word i j) st).1 i j < mu n st.1 i j)
  | [], st, _, _ => .inl rfl
  | x :: r, st, hD, hx => by
    obtain ⟨h0, h1, h2⟩ := hx x (by simp)
    have hD2 := stepL_dim (word := word) hij hj hD x h0 h1 h2
    have ih := roundL_or (word := word) hij hj r (stepL word i j st x) hD2 (fun y hy => hx y (by simp [hy]))
    rw [List.foldl_cons]
    rcases stepL_or (word := word) hij hj hD x h0 h1 h2 with e | ⟨e1, e2⟩
    · rw [e] at ih ⊢
      exact ih
    · rcases ih with e | ⟨e3, e4⟩
      · rw [e]; exact .inr ⟨e1, e2⟩
      · exact .inr ⟨e3, by omega⟩

/-- One part of the table: rounds as long as one lowers something. -/
def cellL (n : Nat) (prods : List S39) (word : List Int) (i j : Nat) (N : Tab3) : Tab3 :=
  if h : (roundL prods word i j N).2 = true ∧ mu n (roundL prods word i j N).1 i j < mu n N i j then cellL n prods word i j (roundL prods word i j N).1 else N
termination_by mu n N i j
decreasing_by exact h.2

theorem cellL_true {L n : Nat} {word : List Int} {i j : Nat} (hij : i ≤ j) (hj : j ≤ L) {prods : List S39} {N : Tab3} (hD : Dim L n N) (hx : ∀ x ∈ prods, 0 ≤ x.f0 ∧ x.f0 < n ∧ ∀ s ∈ x.f1, s < n) (h : (roundL prods word i j N).2 = true) :
    mu n (roundL prods word i j N).1 i j < mu n N i j ∧ cellL n prods word i j N = cellL n prods word i j (roundL prods word i j N).1 := by
  have hm : mu n (roundL prods word i j N).1 i j < mu n N i j := by
    rcases roundL_or (word := word) hij hj prods (N, false) hD hx with e | ⟨_, e⟩
    · unfold roundL at h; rw [e] at h; cases h
    · exact e
  refine ⟨hm, ?_⟩
  conv => lhs; rw [cellL]
  rw [dif_pos ⟨h, hm⟩]
theorem roundL_false {L n : Nat} {word : List Int} {i j : Nat} (hij : i ≤ j) (hj : j ≤ L) {prods : List S39} {N : Tab3} (hD : Dim L n N) (hx : ∀ x ∈ prods, 0 ≤ x.f0 ∧ x.f0 < n ∧ ∀ s ∈ x.f1, s < n) (h : (roundL prods word i j N).2 = false) : (roundL prods word i j N).1 = N := by
  rcases roundL_or (word := word) hij hj prods (N, false) hD hx with e | ⟨e, _⟩
  · unfold roundL; rw [e]
  · unfold roundL at h; rw [h] at e; cases e
theorem cellL_false {n : Nat} {word : List Int} {i j : Nat} {prods : List S39} {N : Tab3} (h : (roundL prods word i j N).2 = false) : cellL n prods word i j N = N := by
  rw [cellL, dif_neg]
  rw [h]
  rintro ⟨h, _⟩
  cases h
theorem cellL_dim {L n : Nat} {word : List Int} {i j : Nat} (hij : i ≤ j) (hj : j ≤ L) {prods : List S39} (hx : ∀ x ∈ prods, 0 ≤ x.f0 ∧ x.f0 < n ∧ ∀ s ∈ x.f1, s < n) : ∀ (m : Nat) (N : Tab3), mu n N i j ≤ m → Dim L n N → Dim L n (cellL n prods word i j N) := by
  intro m
  induction m with
  | zero =>
    intro N hm hD
    cases hb : (roundL prods word i j N).2 with
    | true => have := (cellL_true hij hj hD hx hb).1; omega
    | false => rw [cellL_false hb]; exact hD
  | succ m ih =>
    intro N hm hD
    cases hb : (roundL prods word i j N).2 with
    | true =>
      obtain ⟨h1, h2⟩ := cellL_true hij hj hD hx hb
      rw [h2]
      exact ih _ (by omega) (roundL_dim hij hj prods (N, false) hD hx)
    | false => rw [cellL_false hb]; exact hD

/-- The parts of one size, up to the c-th. -/
def rowL (n : Nat) (prods : List S39) (word : List Int) (size c : Nat) (N : Tab3) : Tab3 := (List.range c).foldl (fun N i => cellL n prods word i (i + size) N) N
def sizesL (n : Nat) (prods : List S39) (word : List Int) (c : Nat) (N : Tab3) : Tab3 := (List.range c).foldl (fun N size => rowL n prods word size (word.length + 1 - size) N) N
def emptyL (n L : Nat) : Tab3 := List.replicate n (List.replicate (L + 1) (List.replicate (L + 1) (-1)))
def fillL (n : Nat) (prods : List S39) (word : List Int) : Tab3 := sizesL n prods word (word.length + 1) (emptyL n word.length)

theorem rowL_succ (n : Nat) (prods : List S39) (word : List Int) (size c : Nat) (N : Tab3) : rowL n prods word size (c + 1) N = cellL n prods word c (c + size) (rowL n prods word size c N) := by
  unfold rowL; rw [List.range_succ, List.foldl_append]; rfl
theorem sizesL_succ (n : Nat) (prods : List S39) (word : List Int) (c : Nat) (N : Tab3) : sizesL n prods word (c + 1) N = rowL n prods word c (word.length + 1 - c) (sizesL n prods word c N) := by
  unfold sizesL; rw [List.range_succ, List.foldl_append]; rfl
theorem rowL_dim {L n : Nat} {word : List Int} {prods : List S39} (hx : ∀ x ∈ prods, 0 ≤ x.f0 ∧ x.f0 < n ∧ ∀ s ∈ x.f1, s < n) (size : Nat) : ∀ (c : Nat) (N : Tab3), c + size ≤ L + 1 → Dim L n N → Dim L n (rowL n prods word size c N)
  | 0, N, _, h => h
  | c + 1, N, hc, h => by
    rw [rowL_succ]
    exact cellL_dim (by omega) (by omega) hx _ _ (Nat.le_refl _) (rowL_dim hx size c N (by omega) h)
theorem sizesL_dim {L n : Nat} {word : List Int} (hw : word.length = L) {prods : List S39} (hx : ∀ x ∈ prods, 0 ≤ x.f0 ∧ x.f0 < n ∧ ∀ s ∈ x.f1, s < n) : ∀ (c : Nat) (N : Tab3), c ≤ L + 1 → Dim L n N → Dim L n (sizesL n prods word c N)
  | 0, N, _, h => h
  | c + 1, N, hc, h => by
    rw [sizesL_succ]
    exact rowL_dim hx c _ _ (by omega) (sizesL_dim hw hx c N (by omega) h)
theorem emptyL_dim (n L : Nat) : Dim L n (emptyL n L) := by
  have hg : ∀ a, a < n → (emptyL n L).getD a [] = List.replicate (L + 1) (List.replicate (L + 1) (-1)) := by
    intro a ha
    simp [emptyL, List.getD_eq_getElem?_getD, List.getElem?_replicate, ha]
  have hg2 : ∀ i, i ≤ L → (List.replicate (L + 1) (List.replicate (L + 1) (-1 : Int))).getD i [] = List.replicate (L + 1) (-1) := by
    intro i hi
    rw [List.getD_eq_getElem?_getD, List.getElem?_replicate, if_pos (by omega)]; rfl
  refine ⟨by simp [emptyL], fun a ha => by rw [hg a ha]; simp, fun a ha i hi => by rw [hg a ha, hg2 i hi]; simp, fun a ha i hi j hj => ?_⟩
  have : node (emptyL n L) a i j = -1 := by
    unfold node
    rw [hg a ha, hg2 i hi, List.getD_eq_getElem?_getD, List.getElem?_replicate, if_pos (by omega)]; rfl
  rw [this]
  unfold top40
  decide
end Go.Proofs.Ytnkpmogpmcggiaa
