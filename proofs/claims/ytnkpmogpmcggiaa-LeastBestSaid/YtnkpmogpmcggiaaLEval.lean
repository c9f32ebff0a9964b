/- Evaluating the table by fuel. -/
import Derived.Test.YtnkpmogpmcggiaaLFillL
set_option linter.unusedVariables false
set_option linter.unusedSimpArgs false
namespace Go.Proofs.Ytnkpmogpmcggiaa
open Go.RowKit Go.Proofs.YtnkpmogpmcggiaaW.PrintWords

def cellO (prods : List S39) (word : List Int) (i j : Nat) : Nat → Tab3 → Option Tab3
  | 0, _ => none
  | k + 1, N => if (roundL prods word i j N).2 then cellO prods word i j k (roundL prods word i j N).1 else some N
def rowO (prods : List S39) (word : List Int) (size k : Nat) : Nat → Tab3 → Option Tab3
  | 0, N => some N
  | c + 1, N => (rowO prods word size k c N).bind fun M => cellO prods word c (c + size) k M
def sizesO (prods : List S39) (word : List Int) (k : Nat) : Nat → Tab3 → Option Tab3
  | 0, N => some N
  | c + 1, N => (sizesO prods word k c N).bind fun M => rowO prods word c k (word.length + 1 - c) M

section
variable {L n : Nat} {word : List Int} {prods : List S39} (hx : ∀ x ∈ prods, 0 ≤ x.f0 ∧ x.f0 < n ∧ ∀ s ∈ x.f1, s < n)
include hx
theorem cellO_eq {i j : Nat} (hij : i ≤ j) (hj : j ≤ L) : ∀ (k : Nat) (N M : Tab3), Dim L n N → cellO prods word i j k N = some M → cellL n prods word i j N = M
  | 0, _, _, _, h => by cases h
  | k + 1, N, M, hD, h => by
    unfold cellO at h
    cases hb : (roundL prods word i j N).2 with
    | true =>
      rw [hb] at h
      rw [(cellL_true hij hj hD hx hb).2]
      exact cellO_eq hij hj k _ M (roundL_dim hij hj prods (N, false) hD hx) h
    | false =>
      rw [hb] at h
      rw [cellL_false hb]
      exact Option.some.inj h
theorem rowO_eq (size k : Nat) : ∀ (c : Nat) (N M : Tab3), c + size ≤ L + 1 → Dim L n N → rowO prods word size k c N = some M → rowL n prods word size c N = M
  | 0, N, M, _, _, h => Option.some.inj h
  | c + 1, N, M, hc, hD, h => by
    unfold rowO at h
    cases h1 : rowO prods word size k c N with
    | none => rw [h1] at h; cases h
    | some M1 =>
      rw [h1] at h
      rw [rowL_succ, rowO_eq size k c N M1 (by omega) hD h1]
      have hD1 := rowL_dim (word := word) hx size c N (by omega) hD
      rw [rowO_eq size k c N M1 (by omega) hD h1] at hD1
      exact cellO_eq hx (by omega) (by omega) k M1 M hD1 h
theorem sizesO_eq (hw : word.length = L) (k : Nat) : ∀ (c : Nat) (N M : Tab3), c ≤ L + 1 → Dim L n N → sizesO prods word k c N = some M → sizesL n prods word c N = M
  | 0, N, M, _, _, h => Option.some.inj h
  | c + 1, N, M, hc, hD, h => by
    unfold sizesO at h
    cases h1 : sizesO prods word k c N with
    | none => rw [h1] at h; cases h
    | some M1 =>
      rw [h1] at h
      rw [sizesL_succ, sizesO_eq hw k c N M1 (by omega) hD h1]
      have hD1 := sizesL_dim (word := word) hw hx c N (by omega) hD
      rw [sizesO_eq hw k c N M1 (by omega) hD h1] at hD1
      exact rowO_eq hx c k _ M1 M (by omega) hD1 h
theorem fillO_eq (k : Nat) (M : Tab3) (h : sizesO prods word k (word.length + 1) (emptyL n word.length) = some M) : fillL n prods word = M :=
  sizesO_eq hx rfl k _ _ M (Nat.le_refl _) (emptyL_dim n word.length) h
end

/-- The law's own grammar. -/
def dP : List S39 := [⟨0, [0, 0]⟩, ⟨0, [-1]⟩, ⟨0, [-1, -1]⟩]
theorem dP_over : ∀ x ∈ dP, 0 ≤ x.f0 ∧ x.f0 < (1 : Nat) ∧ ∀ s ∈ x.f1, s < (1 : Nat) := by decide
theorem fill2 : fillL 1 dP [0, 0] = [[[-1, 2, 3], [-1, -1, 2], [-1, -1, -1]]] := fillO_eq dP_over 5 _ (by kernel_rfl)
theorem fill1 : fillL 1 dP [0] = [[[-1, 2], [-1, -1]]] := fillO_eq dP_over 5 _ (by kernel_rfl)
end Go.Proofs.Ytnkpmogpmcggiaa
