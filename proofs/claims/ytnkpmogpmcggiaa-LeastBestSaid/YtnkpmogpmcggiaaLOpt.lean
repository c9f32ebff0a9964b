/- Filling the table gives a table that is closed under the productions, and whose numbers each come from one. -/
import Derived.Test.YtnkpmogpmcggiaaLTreeL
import Derived.Test.YtnkpmogpmcggiaaLFillL
set_option linter.unusedVariables false
set_option linter.unusedSimpArgs false
namespace Go.Proofs.Ytnkpmogpmcggiaa
open Go.RowKit Go.Proofs.YtnkpmogpmcggiaaW.PrintWords Go.Proofs.YtnkpmogpmcggiaaW.PrintLast Go.Proofs.YtnkpmogpmcggiaaW.PrintMore

/-- At most, where -1 is more than all. -/
def Leq (a b : Int) : Prop := b = -1 ∨ (a ≠ -1 ∧ a ≤ b)
theorem Leq.refl (a : Int) : Leq a a := by unfold Leq; omega
theorem Leq.trans {a b c : Int} (h : Leq a b) (k : Leq b c) : Leq a c := by unfold Leq at *; omega
theorem Leq.anti {a b : Int} (h : Leq a b) (k : Leq b a) : a = b := by unfold Leq at *; omega
def capS (t : Int) : Int := if t = -1 then -1 else min (t + 1) top40
theorem capS_mono {a b : Int} (ha : -1 ≤ a) (h : Leq a b) : Leq (capS a) (capS b) := by
  unfold Leq capS top40 at *
  split <;> split <;> omega

theorem bestStep_leq {own rest : Nat → Int} {j : Nat} {b : Int} (h0 : -1 ≤ own j) (h1 : -1 ≤ rest j) : Leq (bestStep own rest j b) b := by
  unfold bestStep better Leq top40
  split
  · omega
  · split <;> omega
theorem bestStep_at {own rest : Nat → Int} {j : Nat} {b : Int} : bestStep own rest j b = b ∨ (rest j ≠ -1 ∧ own j ≠ -1 ∧ bestStep own rest j b = min (own j + rest j) top40) := by
  unfold bestStep better
  split
  · exact .inl rfl
  · split
    · refine .inr ⟨?_, ?_, rfl⟩ <;> omega
    · exact .inl rfl
theorem bestStep_take {own rest : Nat → Int} {j : Nat} {b : Int} (h0 : -1 ≤ own j) (h1 : -1 ≤ rest j) (hr : rest j ≠ -1) (ho : own j ≠ -1) : Leq (bestStep own rest j b) (min (own j + rest j) top40) := by
  unfold bestStep better Leq top40
  rw [if_neg (by omega)]
  split <;> omega
theorem bestFrom_leq_b {own rest : Nat → Int} : ∀ (c j : Nat) (b : Int), (∀ q, q < j + c → -1 ≤ own q ∧ -1 ≤ rest q) → Leq (bestFrom own rest c j b) b
  | 0, _, b, _ => Leq.refl b
  | c + 1, j, b, h => by
    unfold bestFrom
    exact (bestFrom_leq_b c (j + 1) _ (fun q hq => h q (by omega))).trans (bestStep_leq (h j (by omega)).1 (h j (by omega)).2)
theorem bestFrom_leq {own rest : Nat → Int} : ∀ (c j : Nat) (b : Int), (∀ q, q < j + c → -1 ≤ own q ∧ -1 ≤ rest q) → ∀ q, j ≤ q → q < j + c → rest q ≠ -1 → own q ≠ -1 → Leq (bestFrom own rest c j b) (min (own q + rest q) top40)
  | 0, _, _, _, q, h1, h2, _, _ => by omega
  | c + 1, j, b, h, q, h1, h2, hr, ho => by
    unfold bestFrom
    by_cases e : q = j
    · subst e
      exact (bestFrom_leq_b c (q + 1) _ (fun q hq => h q (by omega))).trans (bestStep_take (h q (by omega)).1 (h q (by omega)).2 hr ho)
    · exact bestFrom_leq c (j + 1) _ (fun q hq => h q (by omega)) q (by omega) (by omega) hr ho
theorem bestFrom_at {own rest : Nat → Int} : ∀ (c j : Nat) (b : Int), bestFrom own rest c j b = b ∨ ∃ q, j ≤ q ∧ q < j + c ∧ rest q ≠ -1 ∧ own q ≠ -1 ∧ bestFrom own rest c j b = min (own q + rest q) top40
  | 0, _, _ => .inl rfl
  | c + 1, j, b => by
    unfold bestFrom
    rcases bestFrom_at (own := own) (rest := rest) c (j + 1) (bestStep own rest j b) with h | ⟨q, h1, h2, h3, h4, h5⟩
    · rw [h]
      rcases bestStep_at (own := own) (rest := rest) (j := j) (b := b) with e | ⟨e1, e2, e3⟩
      · exact .inl e
      · exact .inr ⟨j, Nat.le_refl _, by omega, e1, e2, e3⟩
    · exact .inr ⟨q, by omega, by omega, h3, h4, h5⟩

theorem ofL_mono {N N' : Tab3} (word : List Int) (s : Int) (u v : Nat) (h : ∀ a, Leq (node N a u v) (node N' a u v)) : Leq (ofL word N s u v) (ofL word N' s u v) := by
  unfold ofL
  split
  · exact h _
  · exact Leq.refl _
theorem tl_mono {L n : Nat} {N N' : Tab3} (hD : Dim L n N) (hD' : Dim L n N') (word : List Int) (z : Nat) (hz : z ≤ L) : ∀ (syms : List Int), (∀ s ∈ syms, s < n) → ∀ i, i ≤ z →
    (∀ a u v, i ≤ u → u ≤ v → v ≤ z → Leq (node N a u v) (node N' a u v)) → Leq (tl word N z syms i) (tl word N' z syms i)
  | [], _, i, _, _ => Leq.refl _
  | s :: r, hs, i, hi, h => by
    unfold tl
    rcases bestFrom_at (own := ofL word N' s i) (rest := tl word N' z r) (z + 1 - i) i (-1) with e | ⟨q, h1, h2, h3, h4, h5⟩
    · rw [e]; exact .inl rfl
    · rw [h5]
      have m1 := ofL_mono (N := N) (N' := N') word s i q (fun a => h a i q (Nat.le_refl _) h1 (by omega))
      have m2 := tl_mono hD hD' word z hz r (fun q hq => hs q (by simp [hq])) q (by omega) (fun a u v c1 c2 c3 => h a u v (by omega) c2 c3)
      have b1 := ofL_bounds hD word s (hs s (by simp)) i q (by omega) (by omega)
      have b2 := tl_bounds hD word z hz r (fun q hq => hs q (by simp [hq])) q (by omega)
      have b3 := ofL_bounds hD' word s (hs s (by simp)) i q (by omega) (by omega)
      have b4 := tl_bounds hD' word z hz r (fun q hq => hs q (by simp [hq])) q (by omega)
      have k1 : ofL word N s i q ≠ -1 ∧ ofL word N s i q ≤ ofL word N' s i q := by unfold Leq at m1; omega
      have k2 : tl word N z r q ≠ -1 ∧ tl word N z r q ≤ tl word N' z r q := by unfold Leq at m2; omega
      refine (bestFrom_leq (z + 1 - i) i (-1) (fun q hq => ⟨(ofL_bounds hD word s (hs s (by simp)) i q (by omega) (by omega)).1, (tl_bounds hD word z hz r (fun q hq => hs q (by simp [hq])) q (by omega)).1⟩) q h1 h2 k2.1 k1.1).trans ?_
      unfold Leq top40
      omega
theorem tl_same {L n : Nat} {N N' : Tab3} (hD : Dim L n N) (hD' : Dim L n N') (word : List Int) (z : Nat) (hz : z ≤ L) (syms : List Int) (hs : ∀ s ∈ syms, s < n) (i : Nat) (hi : i ≤ z)
    (h : ∀ a u v, i ≤ u → u ≤ v → v ≤ z → node N a u v = node N' a u v) : tl word N z syms i = tl word N' z syms i :=
  Leq.anti (tl_mono hD hD' word z hz syms hs i hi (fun a u v c1 c2 c3 => by rw [h a u v c1 c2 c3]; exact Leq.refl _)) (tl_mono hD' hD word z hz syms hs i hi (fun a u v c1 c2 c3 => by rw [h a u v c1 c2 c3]; exact Leq.refl _))

/-- A part is closed: no production lowers it. -/
def Closed (prods : List S39) (word : List Int) (N : Tab3) (i j : Nat) : Prop := ∀ x ∈ prods, Leq (node N x.f0.toNat i j) (capS (tl word N j x.f1 i))
/-- A part's numbers come from productions. -/
def Supp (n : Nat) (prods : List S39) (word : List Int) (N : Tab3) (i j : Nat) : Prop := ∀ a, a < n → node N a i j ≠ -1 → ∃ x ∈ prods, x.f0.toNat = a ∧ Leq (capS (tl word N j x.f1 i)) (node N a i j)
def OverL (n : Nat) (prods : List S39) : Prop := ∀ x ∈ prods, 0 ≤ x.f0 ∧ x.f0 < n ∧ ∀ s ∈ x.f1, s < n

section
variable {L n : Nat} {word : List Int} {prods : List S39} {i j : Nat}
theorem stepL_all (hij : i ≤ j) (hj : j ≤ L) {st : Tab3 × Bool} (hD : Dim L n st.1) (hP : OverL n prods) {x : S39} (hx : x ∈ prods) :
    (∀ a u v, ¬ (u = i ∧ v = j) → node (stepL word i j st x).1 a u v = node st.1 a u v) ∧ (∀ a u v, Leq (node (stepL word i j st x).1 a u v) (node st.1 a u v)) ∧
    (Supp n prods word st.1 i j → Supp n prods word (stepL word i j st x).1 i j) ∧
    ((stepL word i j st x).2 = false → st.2 = false ∧ (stepL word i j st x).1 = st.1 ∧ Leq (node st.1 x.f0.toNat i j) (capS (tl word st.1 j x.f1 i))) := by
  obtain ⟨h0, h1, h2⟩ := hP x hx
  have hb := tl_bounds hD word j hj x.f1 h2 i hij
  have hD2 := stepL_dim (word := word) hij hj hD x h0 h1 h2
  unfold stepL at hD2 ⊢
  by_cases c0 : tl word st.1 j x.f1 i = -1
  · rw [if_pos c0] at hD2 ⊢
    refine ⟨fun _ _ _ _ => rfl, fun _ _ _ => Leq.refl _, fun h => h, fun h => ⟨h, rfl, ?_⟩⟩
    rw [c0]; exact .inl rfl
  · rw [if_neg c0] at hD2 ⊢
    by_cases c1 : node st.1 x.f0.toNat i j = -1 ∨ min (tl word st.1 j x.f1 i + 1) top40 < node st.1 x.f0.toNat i j
    · rw [if_pos c1] at hD2 ⊢
      have hset := node_setNode hD (a := x.f0.toNat) (i := i) (j := j) (by omega) (by omega) hj (min (tl word st.1 j x.f1 i + 1) top40)
      have hlow : ∀ a u v, Leq (node (setNode st.1 x.f0.toNat i j (min (tl word st.1 j x.f1 i + 1) top40)) a u v) (node st.1 a u v) := by
        intro a u v
        rw [hset]
        split
        · rename_i e
          obtain ⟨rfl, rfl, rfl⟩ := e
          unfold Leq top40 at *
          omega
        · exact Leq.refl _
      refine ⟨fun a u v e => ?_, hlow, fun hs a ha hne => ?_, fun h => by cases h⟩
      · show node (setNode st.1 x.f0.toNat i j _) a u v = _
        rw [hset, if_neg (fun e2 => e ⟨e2.2.1, e2.2.2⟩)]
      · have hmono : ∀ y ∈ prods, Leq (capS (tl word (setNode st.1 x.f0.toNat i j (min (tl word st.1 j x.f1 i + 1) top40)) j y.f1 i)) (capS (tl word st.1 j y.f1 i)) := fun y hy =>
          capS_mono (tl_bounds hD2 word j hj y.f1 (hP y hy).2.2 i hij).1 (tl_mono hD2 hD word j hj y.f1 (hP y hy).2.2 i hij (fun a u v _ _ _ => hlow a u v))
        by_cases e : a = x.f0.toNat
        · refine ⟨x, hx, e.symm, (hmono x hx).trans ?_⟩
          show Leq _ (node (setNode st.1 x.f0.toNat i j _) a i j)
          rw [hset, if_pos ⟨e, rfl, rfl⟩]
          unfold capS
          rw [if_neg c0]
          exact Leq.refl _
        · have hn : node (setNode st.1 x.f0.toNat i j (min (tl word st.1 j x.f1 i + 1) top40)) a i j = node st.1 a i j := by rw [hset, if_neg (fun e2 => e e2.1)]
          have hne2 : node st.1 a i j ≠ -1 := fun e2 => hne (hn.trans e2)
          obtain ⟨y, hy, hya, hyl⟩ := hs a ha hne2
          refine ⟨y, hy, hya, (hmono y hy).trans ?_⟩
          show Leq _ (node (setNode st.1 x.f0.toNat i j _) a i j)
          rw [hn]
          exact hyl
    · rw [if_neg c1] at hD2 ⊢
      refine ⟨fun _ _ _ _ => rfl, fun _ _ _ => Leq.refl _, fun h => h, fun h => ⟨h, rfl, ?_⟩⟩
      unfold capS Leq top40 at *
      rw [if_neg c0]
      omega
theorem fold_all (hij : i ≤ j) (hj : j ≤ L) (hP : OverL n prods) : ∀ (r : List S39) (st : Tab3 × Bool), Dim L n st.1 → (∀ x ∈ r, x ∈ prods) →
    (∀ a u v, ¬ (u = i ∧ v = j) → node (r.foldl (stepL word i j) st).1 a u v = node st.1 a u v) ∧ (∀ a u v, Leq (node (r.foldl (stepL word i j) st).1 a u v) (node st.1 a u v)) ∧
    (Supp n prods word st.1 i j → Supp n prods word (r.foldl (stepL word i j) st).1 i j) ∧
    ((r.foldl (stepL word i j) st).2 = false → st.2 = false ∧ (r.foldl (stepL word i j) st).1 = st.1 ∧ ∀ x ∈ r, Leq (node st.1 x.f0.toNat i j) (capS (tl word st.1 j x.f1 i)))
  | [], st, _, _ => ⟨fun _ _ _ _ => rfl, fun _ _ _ => Leq.refl _, fun h => h, fun h => ⟨h, rfl, fun x hx => by cases hx⟩⟩
  | x :: r, st, hD, hr => by
    have hx := hr x (by simp)
    obtain ⟨a1, a2, a3, a4⟩ := stepL_all (word := word) hij hj hD hP hx
    obtain ⟨h0, h1, h2⟩ := hP x hx
    obtain ⟨b1, b2, b3, b4⟩ := fold_all hij hj hP r (stepL word i j st x) (stepL_dim hij hj hD x h0 h1 h2) (fun y hy => hr y (by simp [hy]))
    rw [List.foldl_cons]
    refine ⟨fun a u v e => (b1 a u v e).trans (a1 a u v e), fun a u v => (b2 a u v).trans (a2 a u v), fun h => b3 (a3 h), fun h => ?_⟩
    obtain ⟨c1, c2, c3⟩ := b4 h
    obtain ⟨d1, d2, d3⟩ := a4 c1
    refine ⟨d1, c2.trans d2, fun y hy => ?_⟩
    rcases List.mem_cons.1 hy with rfl | hy
    · exact d3
    · have := c3 y hy
      rw [d2] at this
      exact this

theorem cellL_all (hij : i ≤ j) (hj : j ≤ L) (hP : OverL n prods) : ∀ (m : Nat) (N : Tab3), mu n N i j ≤ m → Dim L n N →
    (∀ a u v, ¬ (u = i ∧ v = j) → node (cellL n prods word i j N) a u v = node N a u v) ∧ (Supp n prods word N i j → Supp n prods word (cellL n prods word i j N) i j) ∧ Closed prods word (cellL n prods word i j N) i j := by
  intro m
  induction m with
  | zero =>
    intro N hm hD
    cases hb : (roundL prods word i j N).2 with
    | true => have := (cellL_true hij hj hD hP hb).1; omega
    | false =>
      rw [cellL_false hb]
      exact ⟨fun _ _ _ _ => rfl, fun h => h, ((fold_all (word := word) hij hj hP prods (N, false) hD (fun _ h => h)).2.2.2 hb).2.2⟩
  | succ m ih =>
    intro N hm hD
    cases hb : (roundL prods word i j N).2 with
    | true =>
      obtain ⟨h1, h2⟩ := cellL_true hij hj hD hP hb
      rw [h2]
      obtain ⟨a1, a2, a3⟩ := ih (roundL prods word i j N).1 (by omega) (roundL_dim (word := word) hij hj prods (N, false) hD hP)
      obtain ⟨b1, b2, b3, _⟩ := fold_all (word := word) hij hj hP prods (N, false) hD (fun _ h => h)
      exact ⟨fun a u v e => (a1 a u v e).trans (b1 a u v e), fun h => a2 (b3 h), a3⟩
    | false =>
      rw [cellL_false hb]
      exact ⟨fun _ _ _ _ => rfl, fun h => h, ((fold_all (word := word) hij hj hP prods (N, false) hD (fun _ h => h)).2.2.2 hb).2.2⟩
end

/-- What is done: the parts of lesser size, and those of this size up to the c-th. -/
structure Inv (L n : Nat) (prods : List S39) (word : List Int) (size c : Nat) (N : Tab3) : Prop where
  dim : Dim L n N
  done : ∀ i j, i ≤ j → j ≤ L → (j - i < size ∨ (j - i = size ∧ i < c)) → Closed prods word N i j ∧ Supp n prods word N i j
  rest : ∀ i j, i ≤ j → j ≤ L → ¬ (j - i < size ∨ (j - i = size ∧ i < c)) → ∀ a, a < n → node N a i j = -1

theorem Inv.cell {L n : Nat} {prods : List S39} {word : List Int} {size c : Nat} {N : Tab3} (h : Inv L n prods word size c N) (hP : OverL n prods) (hc : c + size ≤ L) : Inv L n prods word size (c + 1) (cellL n prods word c (c + size) N) := by
  obtain ⟨a1, a2, a3⟩ := cellL_all (word := word) (i := c) (j := c + size) (by omega) hc hP _ N (Nat.le_refl _) h.dim
  have hD2 := cellL_dim (word := word) (i := c) (j := c + size) (by omega) hc hP _ N (Nat.le_refl _) h.dim
  refine ⟨hD2, fun i j hij hj hd => ?_, fun i j hij hj hd a ha => ?_⟩
  · by_cases e : i = c ∧ j = c + size
    · obtain ⟨rfl, rfl⟩ := e
      refine ⟨a3, a2 (fun a ha hne => ?_)⟩
      exact absurd (h.rest i (i + size) hij hj (by omega) a ha) hne
    · obtain ⟨b1, b2⟩ := h.done i j hij hj (by omega)
      have hn : ∀ a u v, i ≤ u → u ≤ v → v ≤ j → node (cellL n prods word c (c + size) N) a u v = node N a u v := fun a u v c1 c2 c3 => a1 a u v (by omega)
      refine ⟨fun x hx => ?_, fun a ha hne => ?_⟩
      · rw [tl_same hD2 h.dim word j hj x.f1 (hP x hx).2.2 i hij hn, hn _ i j (Nat.le_refl _) hij (Nat.le_refl _)]
        exact b1 x hx
      · rw [hn _ i j (Nat.le_refl _) hij (Nat.le_refl _)] at hne ⊢
        obtain ⟨x, hx, hxa, hxl⟩ := b2 a ha hne
        refine ⟨x, hx, hxa, ?_⟩
        rw [tl_same hD2 h.dim word j hj x.f1 (hP x hx).2.2 i hij hn]
        exact hxl
  · rw [a1 a i j (by omega)]
    exact h.rest i j hij hj (by omega) a ha
theorem Inv.row {L n : Nat} {prods : List S39} {word : List Int} {size : Nat} (hP : OverL n prods) : ∀ (c : Nat) (N : Tab3), c + size ≤ L + 1 → Inv L n prods word size 0 N → Inv L n prods word size c (rowL n prods word size c N)
  | 0, N, _, h => h
  | c + 1, N, hc, h => by
    rw [rowL_succ]
    exact (Inv.row hP c N (by omega) h).cell hP (by omega)
theorem Inv.next {L n : Nat} {prods : List S39} {word : List Int} {size : Nat} {N : Tab3} (hs : size ≤ L) (h : Inv L n prods word size (L + 1 - size) N) : Inv L n prods word (size + 1) 0 N :=
  ⟨h.dim, fun i j hij hj hd => h.done i j hij hj (by omega), fun i j hij hj hd => h.rest i j hij hj (by omega)⟩
theorem Inv.sizes {L n : Nat} {prods : List S39} {word : List Int} (hw : word.length = L) (hP : OverL n prods) : ∀ (c : Nat) (N : Tab3), c ≤ L + 1 → Inv L n prods word 0 0 N → Inv L n prods word c 0 (sizesL n prods word c N)
  | 0, N, _, h => h
  | c + 1, N, hc, h => by
    rw [sizesL_succ, hw]
    exact (Inv.row hP (L + 1 - c) _ (by omega) (Inv.sizes hw hP c N (by omega) h)).next (by omega)
theorem emptyL_node (n L a i j : Nat) (ha : a < n) (hi : i ≤ L) (hj : j ≤ L) : node (emptyL n L) a i j = -1 := by
  have hg : (emptyL n L).getD a [] = List.replicate (L + 1) (List.replicate (L + 1) (-1)) := by
    simp [emptyL, List.getD_eq_getElem?_getD, List.getElem?_replicate, ha]
  have hg2 : (List.replicate (L + 1) (List.replicate (L + 1) (-1 : Int))).getD i [] = List.replicate (L + 1) (-1) := by
    rw [List.getD_eq_getElem?_getD, List.getElem?_replicate, if_pos (by omega)]; rfl
  unfold node
  rw [hg, hg2, List.getD_eq_getElem?_getD, List.getElem?_replicate, if_pos (by omega)]; rfl
theorem fillL_inv {n : Nat} {prods : List S39} {word : List Int} (hP : OverL n prods) : Inv word.length n prods word (word.length + 1) 0 (fillL n prods word) := by
  refine Inv.sizes rfl hP _ _ (Nat.le_refl _) ⟨emptyL_dim n word.length, fun i j hij hj hd => by omega, fun i j hij hj _ a ha => emptyL_node n word.length a i j ha (by omega) hj⟩
/-- The filled table. -/
structure Full (n : Nat) (prods : List S39) (word : List Int) (N : Tab3) : Prop where
  dim : Dim word.length n N
  over : OverL n prods
  closed : ∀ i j, i ≤ j → j ≤ word.length → Closed prods word N i j
  supp : ∀ i j, i ≤ j → j ≤ word.length → Supp n prods word N i j
theorem fillL_full {n : Nat} {prods : List S39} {word : List Int} (hP : OverL n prods) : Full n prods word (fillL n prods word) := by
  have h := fillL_inv (word := word) hP
  exact ⟨h.dim, hP, fun i j hij hj => (h.done i j hij hj (by omega)).1, fun i j hij hj => (h.done i j hij hj (by omega)).2⟩
end Go.Proofs.Ytnkpmogpmcggiaa

/- Trees of a grammar: their nodes and yields; the table's numbers are the least trees' nodes, and the tree that is built is a least one. -/
set_option linter.unusedVariables false
set_option linter.unusedSimpArgs false
namespace Go.Proofs.Ytnkpmogpmcggiaa
open Go.RowKit Go.Proofs.YtnkpmogpmcggiaaW.PrintWords Go.Proofs.YtnkpmogpmcggiaaW.PrintLast Go.Proofs.YtnkpmogpmcggiaaW.PrintMore

mutual
def szT : S30 → Nat
  | ⟨_, ks⟩ => szs ks + 1
def szs : List S30 → Nat
  | [] => 0
  | t :: r => szT t + szs r
end
mutual
def yT : S30 → List Int
  | ⟨p, ks⟩ => if p < 0 then [-1 - p] else ys ks
def ys : List S30 → List Int
  | [] => []
  | t :: r => yT t ++ ys r
end
mutual
def okT (prods : List S39) : Int → S30 → Prop
  | s, ⟨p, ks⟩ => (s < 0 ∧ p = s ∧ ks = []) ∨ (0 ≤ p ∧ p < prods.length ∧ 0 ≤ s ∧ (rd_T39 prods p).f0 = s ∧ oks prods (rd_T39 prods p).f1 ks)
def oks (prods : List S39) : List Int → List S30 → Prop
  | [], [] => True
  | s :: r, t :: ks => okT prods s t ∧ oks prods r ks
  | _, _ => False
end
theorem szT_pos : ∀ t : S30, 1 ≤ szT t
  | ⟨_, ks⟩ => by unfold szT; omega
theorem oks_cons {prods : List S39} {syms : List Int} {t : S30} {r : List S30} (h : oks prods syms (t :: r)) : ∃ s r', syms = s :: r' ∧ okT prods s t ∧ oks prods r' r := by
  cases syms with
  | nil => unfold oks at h; exact h.elim
  | cons s r' => unfold oks at h; exact ⟨s, r', rfl, h.1, h.2⟩
theorem oks_nil {prods : List S39} {syms : List Int} (h : oks prods syms []) : syms = [] := by
  cases syms with
  | nil => rfl
  | cons s r' => unfold oks at h; exact h.elim
theorem rd_mem39 (prods : List S39) (p : Int) (h0 : 0 ≤ p) (h1 : p < prods.length) : rd_T39 prods p ∈ prods := by
  unfold rd_T39
  rw [List.getD_eq_getElem?_getD, List.getElem?_eq_getElem (by omega)]
  exact List.getElem_mem _
/-- A part of a word. -/
def seg (word : List Int) (i j : Nat) : List Int := (word.drop i).take (j - i)
theorem seg_self (word : List Int) (i : Nat) : seg word i i = [] := by unfold seg; simp
theorem seg_split (word : List Int) (i j z : Nat) (h1 : i ≤ j) (h2 : j ≤ z) : seg word i z = seg word i j ++ seg word j z := by
  unfold seg
  rw [show z - i = (j - i) + (z - j) by omega, List.take_add, List.drop_drop, show i + (j - i) = j by omega]
theorem seg_length (word : List Int) (i j : Nat) (h : j ≤ word.length) : (seg word i j).length = j - i := by
  unfold seg; rw [List.length_take, List.length_drop]; omega
theorem seg_one (word : List Int) (i : Nat) (h : i < word.length) : seg word i (i + 1) = [word.getD i 0] := by
  unfold seg
  rw [show i + 1 - i = 1 by omega, List.drop_eq_getElem_cons h, List.take_succ_cons, List.take_zero]
  simp [List.getD_eq_getElem?_getD, List.getElem?_eq_getElem h]

section
variable {n : Nat} {prods : List S39} {word : List Int} {N : Tab3}
theorem leq_capS {a t : Int} {m : Nat} (h : Leq a (capS t)) (k : Leq t (Min.min (m : Int) top40)) (ht : -1 ≤ t) : Leq a (Min.min ((m + 1 : Nat) : Int) top40) := by
  have h0 : (0 : Int) ≤ Min.min (m : Int) top40 := by unfold top40; omega
  by_cases e : t = -1
  · rcases k with k | k
    · rw [k] at h0; omega
    · exact absurd e k.1
  · rw [capS, if_neg e] at h
    unfold Leq top40 at *
    omega
theorem leq_sum {a b c : Int} {m1 m2 : Nat} (h1 : a ≤ Min.min (m1 : Int) top40) (h2 : b ≤ Min.min (m2 : Int) top40) (h0 : a ≠ -1) (h3 : -1 ≤ a) (h4 : b ≠ -1) (h5 : -1 ≤ b) (h : Leq c (Min.min (a + b) top40)) : Leq c (Min.min ((m1 + m2 : Nat) : Int) top40) := by
  unfold Leq top40 at *
  omega
theorem leq_le {a : Int} {m : Nat} (h : Leq a (Min.min (m : Int) top40)) : a ≠ -1 ∧ a ≤ Min.min (m : Int) top40 := by
  unfold Leq top40 at *
  omega
theorem Leq.min {a b : Int} (h : Leq a b) (hb : b ≤ top40) : Leq a (min b top40) := by unfold Leq at *; omega
mutual
theorem min_T (hF : Full n prods word N) : ∀ (t : S30) (s : Int) (i j : Nat), okT prods s t → s < n → i ≤ j → j ≤ word.length → yT t = seg word i j → Leq (ofL word N s i j) (min (szT t : Int) top40)
  | ⟨p, ks⟩, s, i, j, hok, hs, hij, hj, hy => by
    unfold okT at hok
    rcases hok with ⟨h0, rfl, rfl⟩ | ⟨h0, h1, h2, h3, h4⟩
    · unfold yT at hy
      rw [if_pos h0] at hy
      have hl := congrArg List.length hy
      rw [seg_length _ _ _ hj] at hl
      simp only [List.length_singleton] at hl
      obtain rfl : j = i + 1 := by omega
      rw [seg_one _ _ (by omega)] at hy
      have hw : word.getD i 0 = -1 - p := by injection hy with hy _; exact hy.symm
      unfold ofL
      rw [if_neg (by omega), if_pos ⟨rfl, hw⟩]
      unfold szT szs Leq top40
      omega
    · unfold yT at hy
      rw [if_neg (by omega)] at hy
      have hx := rd_mem39 prods p h0 h1
      have hsy := (hF.over _ hx).2.2
      have ht := min_s hF ks (rd_T39 prods p).f1 i j h4 hsy hij hj hy
      have hc := hF.closed i j hij hj _ hx
      rw [h3] at hc
      unfold ofL
      rw [if_pos h2]
      unfold szT
      exact leq_capS hc ht (tl_bounds hF.dim word j hj (rd_T39 prods p).f1 hsy i hij).1
theorem min_s (hF : Full n prods word N) : ∀ (ks : List S30) (syms : List Int) (i z : Nat), oks prods syms ks → (∀ s ∈ syms, s < n) → i ≤ z → z ≤ word.length → ys ks = seg word i z → Leq (tl word N z syms i) (min (szs ks : Int) top40)
  | [], syms, i, z, hok, hs, hiz, hz, hy => by
    obtain rfl := oks_nil hok
    unfold ys at hy
    have hl := congrArg List.length hy
    rw [seg_length _ _ _ hz] at hl
    simp only [List.length_nil] at hl
    unfold tl szs Leq top40
    rw [if_pos (by omega)]
    omega
  | t :: r, syms, i, z, hok, hs, hiz, hz, hy => by
    obtain ⟨s, r', rfl, h1, h2⟩ := oks_cons hok
    unfold ys at hy
    have hl := congrArg List.length hy
    rw [List.length_append, seg_length _ _ _ hz] at hl
    have hsp := seg_split word i (i + (yT t).length) z (by omega) (by omega)
    rw [hsp] at hy
    have hlen : (yT t).length = (seg word i (i + (yT t).length)).length := by rw [seg_length _ _ _ (by omega)]; omega
    obtain ⟨e1, e2⟩ := List.append_inj hy hlen
    have m1 := min_T hF t s i (i + (yT t).length) h1 (hs s (by simp)) (by omega) (by omega) e1
    have m2 := min_s hF r r' (i + (yT t).length) z h2 (fun q hq => hs q (by simp [hq])) (by omega) hz e2
    generalize hj : i + (yT t).length = j at *
    have b1 := ofL_bounds hF.dim word s (hs s (by simp)) i j (by omega) (by omega)
    have b2 := tl_bounds hF.dim word z hz r' (fun q hq => hs q (by simp [hq])) j (by omega)
    unfold tl
    have k1 := leq_le m1
    have k2 := leq_le m2
    unfold szs
    exact leq_sum k1.2 k2.2 k1.1 b1.1 k2.1 b2.1 (bestFrom_leq (z + 1 - i) i (-1) (fun q hq => ⟨(ofL_bounds hF.dim word s (hs s (by simp)) i q (by omega) (by omega)).1, (tl_bounds hF.dim word z hz r' (fun q hq => hs q (by simp [hq])) q (by omega)).1⟩) j (by omega) (by omega) k2.1 k1.1)
end

/-- Where a part ends, the nodes are as they are to be. -/
theorem endL_hit (word : List Int) (N : Tab3) (s : Int) (fr : Nat) (nodes : Int) (rest : Nat → Int) : ∀ (c j q : Nat), j ≤ q → q < j + c → ofL word N s fr q ≠ -1 → rest q ≠ -1 → ofL word N s fr q + rest q = nodes →
    j ≤ endL word N s fr nodes rest c j ∧ endL word N s fr nodes rest c j < j + c ∧ ofL word N s fr (endL word N s fr nodes rest c j) ≠ -1 ∧ rest (endL word N s fr nodes rest c j) ≠ -1 ∧ ofL word N s fr (endL word N s fr nodes rest c j) + rest (endL word N s fr nodes rest c j) = nodes
  | 0, j, q, h1, h2, _, _, _ => by omega
  | c + 1, j, q, h1, h2, h3, h4, h5 => by
    have ih := fun (hq : j + 1 ≤ q) => endL_hit word N s fr nodes rest c (j + 1) q hq (by omega) h3 h4 h5
    unfold endL
    split
    · rename_i e
      have hq : j + 1 ≤ q := by
        rcases Nat.lt_or_ge j q with h | h
        · exact h
        · obtain rfl : q = j := by omega
          exact absurd e h3
      obtain ⟨a, b, d⟩ := ih hq
      exact ⟨by omega, by omega, d⟩
    · split
      · rename_i e
        have hq : j + 1 ≤ q := by
          rcases Nat.lt_or_ge j q with h | h
          · exact h
          · obtain rfl : q = j := by omega
            exact absurd e h4
        obtain ⟨a, b, d⟩ := ih hq
        exact ⟨by omega, by omega, d⟩
      · split
        · rename_i e1 e2 e3
          exact ⟨Nat.le_refl _, by omega, e1, e2, e3⟩
        · rename_i e
          have hq : j + 1 ≤ q := by
            rcases Nat.lt_or_ge j q with h | h
            · exact h
            · obtain rfl : q = j := by omega
              exact absurd h5 e
          obtain ⟨a, b, d⟩ := ih hq
          exact ⟨by omega, by omega, d⟩
/-- What is said of the tree that is built. -/
structure Built (prods : List S39) (word : List Int) (N : Tab3) (s : Int) (i j : Nat) (t : S30) : Prop where
  ok : okT prods s t
  yield : yT t = seg word i j
  size : (szT t : Int) = ofL word N s i j
  first : 0 ≤ s → prods.findIdx? (hitL word N s i j (node N s.toNat i j)) = some t.f0.toNat ∧ 0 ≤ t.f0
theorem kids_ok (hF : Full n prods word N) (f : Int → Nat → Nat → Option S30) (m : Int) (hm : m ≤ 100000)
    (hf : ∀ (s : Int) (i j : Nat), s < n → i ≤ j → j ≤ word.length → ofL word N s i j ≠ -1 → ofL word N s i j ≤ m → ∃ t, f s i j = some t ∧ Built prods word N s i j t) (z : Nat) (hz : z ≤ word.length) :
    ∀ (syms : List Int) (i : Nat), (∀ s ∈ syms, s < n) → i ≤ z → tl word N z syms i ≠ -1 → tl word N z syms i ≤ m → ∃ ks, kidsL f word N z syms i = some ks ∧ oks prods syms ks ∧ ys ks = seg word i z ∧ (szs ks : Int) = tl word N z syms i
  | [], i, _, hi, h0, _ => by
    unfold tl at h0
    have e : i = z := by
      rcases Nat.decEq i z with h | h
      · rw [if_neg h] at h0; exact absurd rfl h0
      · exact h
    subst e
    refine ⟨[], rfl, by unfold oks; trivial, by unfold ys; rw [seg_self], ?_⟩
    unfold szs tl
    rw [if_pos rfl]
    rfl
  | s :: r, i, hs, hi, h0, h1 => by
    have hsr : ∀ q ∈ r, q < n := fun q hq => hs q (by simp [hq])
    have hat := bestFrom_at (own := ofL word N s i) (rest := tl word N z r) (z + 1 - i) i (-1)
    have htl : tl word N z (s :: r) i = bestFrom (ofL word N s i) (tl word N z r) (z + 1 - i) i (-1) := rfl
    rcases hat with h | ⟨q, q1, q2, q3, q4, q5⟩
    · rw [htl] at h0; exact absurd h h0
    · rw [← htl] at q5
      have b1 := ofL_bounds hF.dim word s (hs s (by simp)) i q (by omega) (by omega)
      have b2 := tl_bounds hF.dim word z hz r hsr q (by omega)
      have q6 : ofL word N s i q + tl word N z r q = tl word N z (s :: r) i := by unfold top40 at *; omega
      obtain ⟨e1, e2, e3, e4, e5⟩ := endL_hit word N s i (tl word N z (s :: r) i) (tl word N z r) (z + 1 - i) i q q1 q2 q4 q3 q6
      generalize he : endL word N s i (tl word N z (s :: r) i) (tl word N z r) (z + 1 - i) i = e at *
      have b3 := ofL_bounds hF.dim word s (hs s (by simp)) i e (by omega) (by omega)
      have b4 := tl_bounds hF.dim word z hz r hsr e (by omega)
      obtain ⟨t, t1, t2⟩ := hf s i e (hs s (by simp)) e1 (by omega) e3 (by omega)
      obtain ⟨ks, k1, k2, k3, k4⟩ := kids_ok hF f m hm hf z hz r e hsr (by omega) e4 (by omega)
      refine ⟨t :: ks, ?_, ?_, ?_, ?_⟩
      · unfold kidsL
        rw [he, t1]
        simp only [Option.bind_some]
        rw [k1]
        rfl
      · unfold oks; exact ⟨t2.ok, k2⟩
      · unfold ys; rw [t2.yield, k3, ← seg_split word i e z e1 (by omega)]
      · unfold szs
        have := t2.size
        omega
theorem tree_ok (hF : Full n prods word N) : ∀ (fuel : Nat) (s : Int) (i j : Nat), s < n → i ≤ j → j ≤ word.length → ofL word N s i j ≠ -1 → ofL word N s i j ≤ fuel → fuel ≤ 100000 → ∃ t, treeL prods word N fuel s i j = some t ∧ Built prods word N s i j t
  | 0, s, i, j, hs, hij, hj, h0, h1, hf => by
    exfalso
    have hb := ofL_bounds hF.dim word s hs i j (by omega) hj
    unfold ofL at h0 h1 hb
    split at h0
    · rename_i h2
      rw [if_pos h2] at h1 hb
      obtain ⟨x, hx, hxa, hxl⟩ := hF.supp i j hij hj s.toNat (by omega) h0
      have hb2 := tl_bounds hF.dim word j hj x.f1 (hF.over x hx).2.2 i hij
      unfold capS Leq top40 at hxl
      split at hxl <;> omega
    · rename_i h2
      rw [if_neg h2] at h1
      split at h0
      · rename_i h3
        rw [if_pos h3] at h1
        omega
      · exact absurd rfl h0
  | fuel + 1, s, i, j, hs, hij, hj, h0, h1, hf => by
    unfold treeL
    by_cases c : s < 0
    · rw [if_pos c]
      refine ⟨_, rfl, ⟨by unfold okT; exact .inl ⟨c, rfl, rfl⟩, ?_, ?_, fun h => by omega⟩⟩
      · unfold ofL at h0
        rw [if_neg (by omega)] at h0
        split at h0
        · rename_i h3
          obtain ⟨rfl, h4⟩ := h3
          unfold yT
          rw [if_pos c, seg_one _ _ (by omega), h4]
        · exact absurd rfl h0
      · unfold ofL at h0 ⊢
        rw [if_neg (by omega)] at h0 ⊢
        split at h0
        · rename_i h3
          rw [if_pos h3]
          unfold szT szs
          rfl
        · exact absurd rfl h0
    · rw [if_neg c]
      have hof : ofL word N s i j = node N s.toNat i j := by unfold ofL; rw [if_pos (by omega)]
      rw [hof] at h0 h1
      obtain ⟨x, hx, hxa, hxl⟩ := hF.supp i j hij hj s.toNat (by omega) h0
      have hxs : x.f0 = s := by have := (hF.over x hx).1; omega
      have hcl := hF.closed i j hij hj x hx
      rw [hxs] at hcl
      have hb2 := tl_bounds hF.dim word j hj x.f1 (hF.over x hx).2.2 i hij
      have hhit : hitL word N s i j (node N s.toNat i j) x = true := by
        unfold hitL
        unfold capS Leq top40 at hxl hcl
        split at hxl
        · omega
        · rename_i h3
          rw [decide_eq_true hxs, decide_eq_true h3, decide_eq_true (by omega)]
          rfl
      cases hfi : prods.findIdx? (hitL word N s i j (node N s.toNat i j)) with
      | none =>
        rw [List.findIdx?_eq_none_iff] at hfi
        have := hfi x hx
        rw [hhit] at this
        cases this
      | some p =>
        obtain ⟨p1, p2, _⟩ := List.findIdx?_eq_some_iff_getElem.1 hfi
        have hrd : rd_T39 prods (p : Int) = prods[p] := by simp [rd_T39, List.getD_eq_getElem?_getD, List.getElem?_eq_getElem p1]
        have hpm : prods[p] ∈ prods := List.getElem_mem _
        unfold hitL at p2
        simp only [Bool.and_eq_true, decide_eq_true_eq] at p2
        obtain ⟨g1, g2, g3⟩ := p2
        obtain ⟨ks, k1, k2, k3, k4⟩ := kids_ok hF (treeL prods word N fuel) fuel (by omega) (fun s i j a b c d e => tree_ok hF fuel s i j a b c d e (by omega)) j hj prods[p].f1 i (hF.over _ hpm).2.2 hij g2 (by omega)
        refine ⟨⟨p, ks⟩, ?_, ⟨?_, ?_, ?_, fun _ => ⟨by simpa using hfi, by show (0 : Int) ≤ (p : Int); omega⟩⟩⟩
        · simp only
          rw [hrd, k1]
          rfl
        · unfold okT
          refine .inr ⟨by omega, by omega, by omega, ?_, ?_⟩
          · rw [hrd]; exact g1
          · rw [hrd]; exact k2
        · unfold yT
          rw [if_neg (by omega)]
          exact k3
        · rw [hof]
          unfold szT
          omega
end
end Go.Proofs.Ytnkpmogpmcggiaa
