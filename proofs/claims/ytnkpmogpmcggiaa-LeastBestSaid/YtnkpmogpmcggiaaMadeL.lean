/- The grammars that the laws make out of raw numbers: what the function computes. Laid by a program over the words of the print. -/
import Derived.Test.YtnkpmogpmcggiaaLKinds
namespace Go.Proofs.Ytnkpmogpmcggiaa
open Go.RowKit Go.Proofs.YtnkpmogpmcggiaaW.PrintWords Go.Proofs.YtnkpmogpmcggiaaW.PrintLast Go.Proofs.YtnkpmogpmcggiaaW.PrintMore
attribute [local go_sem] max2_int min2_int max_two min_two max_three min_three max_four min_four   -- for this text's walks alone
set_option linter.unusedVariables false
set_option linter.unusedSimpArgs false

/-! ### primerlaw15_made: function 12 -/
/-- A row that is read, with its room. -/
def RowOf {α : Type} (d : Kd α) (w : World) (A : Option Addr) (c : Nat) (xs : List α) : Prop := Kd.C d w A xs.length xs ∧ xs.length ≤ c
theorem row_of {α : Type} {d : Kd α} {e base : Nat} {W : World} {A : Option Addr} {c : Nat} {xs : List α} (h : d.R e W base (fun _ => True) (.slice A xs.length c) xs) : RowOf d W A c xs := ⟨(Kd.R_reads' h).2.2, (Kd.R_reads' h).2.1⟩
def MadePost (w : World) (r1 r2 : Int) (r3 r4 : List ByteArray) (r5 : List S39) (r6 r7 : Int) (r8 r9 : List ByteArray) (r10 : List S64) (e : Ending) (w' : World) : Prop :=
  ∃ (A2 : Option Addr) (c2 : Nat) (A3 : Option Addr) (c3 : Nat) (A4 : Option Addr) (c4 : Nat) (B2 : Option Addr) (d2 : Nat) (B3 : Option Addr) (d3 : Nat) (B4 : Option Addr) (d4 : Nat),
    e = .returned (.tuple #[.agg #[.int .i64 r1, .int .i64 r2, .slice A2 r3.length c2, .slice A3 r4.length c3, .slice A4 r5.length c4], .agg #[.int .i64 r6, .int .i64 r7, .slice B2 r8.length d2, .slice B3 r9.length d3, .slice B4 r10.length d4]]) ∧
    (RowOf Kd.string w' A2 c2 r3 ∧ RowOf Kd.string w' A3 c3 r4 ∧ RowOf k39 w' A4 c4 r5) ∧ (RowOf Kd.string w' B2 d2 r8 ∧ RowOf Kd.string w' B3 d3 r9 ∧ RowOf k64 w' B4 d4 r10) ∧ Below w.heap.size w w'
/-- A production of the reference's grammar as the program's. -/
def convP (y : S64) : S39 := ⟨y.f0, y.f1⟩
mutual
def primerlaw15_made.l0 : Nat → Int → Int → Int → Int → Int → Int → List Int → List (List Int) → Int → Int → List ByteArray → Option (Int × Int × List ByteArray × List ByteArray × (List (S39)) × Int × Int × List ByteArray × List ByteArray × (List (S64)))
  | 0, _, _, _, _, _, _, _, _, _, _, _ => none
  | k + 1, x4, x5, x7, x230000, x230001, x230002, x230003, x230004, x233000, x233001, x233002 => if x7 < x4 then (if x233002.length < 8796093022208 then (primerlaw15_made.l0 k x4 x5 (wrap64 (x7 + 1)) x230000 x230001 x230002 x230003 x230004 x233000 x233001 (x233002 ++ [strOfNums (([(wrap64 (65 + x7)) % 256] : List Int))])) else (none)) else (primerlaw15_made.l1 k x4 x5 0 x230000 x230001 x230002 x230003 x230004 x233000 x233001 x233002 ([] : List ByteArray))
def primerlaw15_made.l1 : Nat → Int → Int → Int → Int → Int → Int → List Int → List (List Int) → Int → Int → List ByteArray → List ByteArray → Option (Int × Int × List ByteArray × List ByteArray × (List (S39)) × Int × Int × List ByteArray × List ByteArray × (List (S64)))
  | 0, _, _, _, _, _, _, _, _, _, _, _, _ => none
  | k + 1, x4, x5, x8, x230000, x230001, x230002, x230003, x230004, x233000, x233001, x233002, x233003 => if x8 < x5 then (if x233003.length < 8796093022208 then (primerlaw15_made.l1 k x4 x5 (wrap64 (x8 + 1)) x230000 x230001 x230002 x230003 x230004 x233000 x233001 x233002 (x233003 ++ [strOfNums (([(wrap64 (97 + x8)) % 256] : List Int))])) else (none)) else (primerlaw15_made.l2 k x4 x5 0 x230000 x230001 x230002 x230003 x230004 x233000 x233001 x233002 x233003 ([] : List (S64)))
def primerlaw15_made.l2 : Nat → Int → Int → Int → Int → Int → Int → List Int → List (List Int) → Int → Int → List ByteArray → List ByteArray → List (S64) → Option (Int × Int × List ByteArray × List ByteArray × (List (S39)) × Int × Int × List ByteArray × List ByteArray × (List (S64)))
  | 0, _, _, _, _, _, _, _, _, _, _, _, _, _ => none
  | k + 1, x4, x5, x9, x230000, x230001, x230002, x230003, x230004, x233000, x233001, x233002, x233003, x233004 => if x9 < x4 then (primerlaw15_made.l3 k x4 x5 x9 0 x230000 x230001 x230002 x230003 x230004 x233000 x233001 x233002 x233003 x233004) else ((some (([] : List ByteArray) : List ByteArray)).bind fun y258 => (if y258.length + x233002.length < 8796093022208 then ((some (([] : List ByteArray) : List ByteArray)).bind fun y264 => (if y264.length + x233003.length < 8796093022208 then (primerlaw15_made.l5 k 0 x233000 x233001 x233002 x233003 x233004 x233000 x4 (y258 ++ x233002) (y264 ++ x233003) ([] : List (S39))) else (none))) else (none)))
def primerlaw15_made.l3 : Nat → Int → Int → Int → Int → Int → Int → Int → List Int → List (List Int) → Int → Int → List ByteArray → List ByteArray → List (S64) → Option (Int × Int × List ByteArray × List ByteArray × (List (S39)) × Int × Int × List ByteArray × List ByteArray × (List (S64)))
  | 0, _, _, _, _, _, _, _, _, _, _, _, _, _, _ => none
  | k + 1, x4, x5, x9, x10, x230000, x230001, x230002, x230003, x230004, x233000, x233001, x233002, x233003, x233004 => if x10 < (x230003.length : Int) then (if x10 < (x230004.length : Int) then (primerlaw15_made.j4 k x4 x5 x9 x10 (decide (x10 < 12)) x230000 x230001 x230002 x230003 x230004 x233000 x233001 x233002 x233003 x233004) else (primerlaw15_made.j4 k x4 x5 x9 x10 false x230000 x230001 x230002 x230003 x230004 x233000 x233001 x233002 x233003 x233004)) else (primerlaw15_made.j4 k x4 x5 x9 x10 false x230000 x230001 x230002 x230003 x230004 x233000 x233001 x233002 x233003 x233004)
def primerlaw15_made.j4 : Nat → Int → Int → Int → Int → Bool → Int → Int → Int → List Int → List (List Int) → Int → Int → List ByteArray → List ByteArray → List (S64) → Option (Int × Int × List ByteArray × List ByteArray × (List (S39)) × Int × Int × List ByteArray × List ByteArray × (List (S64)))
  | 0, _, _, _, _, _, _, _, _, _, _, _, _, _, _, _ => none
  | k + 1, x4, x5, x9, x10, x82, x230000, x230001, x230002, x230003, x230004, x233000, x233001, x233002, x233003, x233004 => if x82 = true then (if 0 ≤ x10 then (if x10 < (x230003.length : Int) then (if x4 = 0 then (none) else (if (Int.tmod (wrap64 ((Int.tmod (rd x230003 x10) x4) + x4)) x4) = x9 then (primerlaw15_made.l4 k x4 x5 x9 x10 ([] : List Int) 0 x230000 x230001 x230002 x230003 x230004 x233000 x233001 x233002 x233003 x233004) else (primerlaw15_made.l3 k x4 x5 x9 (wrap64 (x10 + 1)) x230000 x230001 x230002 x230003 x230004 x233000 x233001 x233002 x233003 x233004))) else (none)) else (none)) else (primerlaw15_made.l2 k x4 x5 (wrap64 (x9 + 1)) x230000 x230001 x230002 x230003 x230004 x233000 x233001 x233002 x233003 x233004)
def primerlaw15_made.l4 : Nat → Int → Int → Int → Int → List Int → Int → Int → Int → Int → List Int → List (List Int) → Int → Int → List ByteArray → List ByteArray → List (S64) → Option (Int × Int × List ByteArray × List ByteArray × (List (S39)) × Int × Int × List ByteArray × List ByteArray × (List (S64)))
  | 0, _, _, _, _, _, _, _, _, _, _, _, _, _, _, _, _ => none
  | k + 1, x4, x5, x9, x10, x11, x12, x230000, x230001, x230002, x230003, x230004, x233000, x233001, x233002, x233003, x233004 => if 0 ≤ x10 then (if x10 < (x230004.length : Int) then (if x12 < ((rd_L2 x230004 x10).length : Int) then (if x12 < 4 then (if 0 ≤ x12 then (if (wrap64 (x4 + x5)) = 0 then (none) else (if x11.length < 17592186044416 then (primerlaw15_made.l4 k x4 x5 x9 x10 (x11 ++ [wrap64 ((Int.tmod (wrap64 ((wrap64 ((Int.tmod (rd (rd_L2 x230004 x10) x12) (wrap64 (x4 + x5))) + x4)) + x5)) (wrap64 (x4 + x5))) - x5)]) (wrap64 (x12 + 1)) x230000 x230001 x230002 x230003 x230004 x233000 x233001 x233002 x233003 x233004) else (none))) else (none)) else (if x233004.length < 4398046511104 then (primerlaw15_made.l3 k x4 x5 x9 (wrap64 (x10 + 1)) x230000 x230001 x230002 x230003 x230004 x233000 x233001 x233002 x233003 (x233004 ++ [(⟨x9, x11⟩ : S64)])) else (none))) else (if x233004.length < 4398046511104 then (primerlaw15_made.l3 k x4 x5 x9 (wrap64 (x10 + 1)) x230000 x230001 x230002 x230003 x230004 x233000 x233001 x233002 x233003 (x233004 ++ [(⟨x9, x11⟩ : S64)])) else (none))) else (none)) else (none)
def primerlaw15_made.l5 : Nat → Int → Int → Int → List ByteArray → List ByteArray → List (S64) → Int → Int → List ByteArray → List ByteArray → List (S39) → Option (Int × Int × List ByteArray × List ByteArray × (List (S39)) × Int × Int × List ByteArray × List ByteArray × (List (S64)))
  | 0, _, _, _, _, _, _, _, _, _, _, _ => none
  | k + 1, x14, x233000, x233001, x233002, x233003, x233004, x271000, x271001, x271002, x271003, x271004 => if x14 < (x233004.length : Int) then (if 0 ≤ x14 then ((some (([] : List Int) : List Int)).bind fun y272 => (if y272.length + ((rd_T64 x233004 x14).f1).length < 17592186044416 then (if x271004.length < 4398046511104 then (primerlaw15_made.l5 k (wrap64 (x14 + 1)) x233000 x233001 x233002 x233003 x233004 x271000 x271001 x271002 x271003 (x271004 ++ [(⟨(rd_T64 x233004 x14).f0, (y272 ++ ((rd_T64 x233004 x14).f1))⟩ : S39)])) else (none)) else (none))) else (none)) else (some (x271000, x271001, x271002, x271003, x271004, x233000, x233001, x233002, x233003, x233004))
end
def primerlaw15_made.f (k : Nat) (a0_0 : Int) (a0_1 : Int) (a0_2 : Int) (l0_3 : List Int) (l0_4 : List (List Int)) : Option (Int × Int × List ByteArray × List ByteArray × (List (S39)) × Int × Int × List ByteArray × List ByteArray × (List (S64))) := if (wrap64 (1 + (Go.bits .and .i64 a0_0 3))) = 0 then (none) else (primerlaw15_made.l0 k (wrap64 (1 + (Go.bits .and .i64 a0_0 3))) (Go.bits .and .i64 a0_1 3) 0 a0_0 a0_1 a0_2 l0_3 l0_4 (Int.tmod (wrap64 ((Int.tmod a0_2 (wrap64 (1 + (Go.bits .and .i64 a0_0 3)))) + (wrap64 (1 + (Go.bits .and .i64 a0_0 3))))) (wrap64 (1 + (Go.bits .and .i64 a0_0 3)))) (wrap64 (1 + (Go.bits .and .i64 a0_0 3))) ([] : List ByteArray))
theorem made_l5 : ∀ (k : Nat) (acc : List S39) (s0 s1 : Int) (n t : List ByteArray) (q : List S64) (p0 p1 : Int) (pn pt : List ByteArray) (r : Int × Int × List ByteArray × List ByteArray × (List (S39)) × Int × Int × List ByteArray × List ByteArray × (List (S64))),
    primerlaw15_made.l5 k (acc.length : Int) s0 s1 n t q p0 p1 pn pt acc = some r → acc.length ≤ q.length → (acc.length < q.length → q.length ≤ 4398046511104) ∧ r = (p0, p1, pn, pt, acc ++ (q.drop acc.length).map convP, s0, s1, n, t, q) ∧ ∀ y ∈ q.drop acc.length, y.f1.length < 17592186044416
  | 0, acc, s0, s1, n, t, q, p0, p1, pn, pt, r, h, _ => by simp [primerlaw15_made.l5] at h
  | k + 1, acc, s0, s1, n, t, q, p0, p1, pn, pt, r, h, hl => by
    unfold primerlaw15_made.l5 at h
    by_cases c : acc.length < q.length
    · rw [if_pos (by omega), if_pos (by omega)] at h
      simp only [Option.bind_some] at h
      have e : rd_T64 q (acc.length : Int) = q[acc.length] := by simp [rd_T64, List.getD_eq_getElem?_getD, List.getElem?_eq_getElem c]
      split at h
      · rename_i c1
        split at h
        · rename_i c2
          have ih := made_l5 k (acc ++ [⟨(rd_T64 q acc.length).f0, [] ++ (rd_T64 q acc.length).f1⟩]) s0 s1 n t q p0 p1 pn pt r (by
            rw [show (((acc ++ [(⟨(rd_T64 q acc.length).f0, [] ++ (rd_T64 q acc.length).f1⟩ : S39)]).length : Nat) : Int) = wrap64 ((acc.length : Int) + 1) from by
              rw [List.length_append, List.length_singleton]; unfold wrap64; omega]
            exact h) (by rw [List.length_append, List.length_singleton]; omega)
          refine ⟨fun _ => ?_, ?_, ?_⟩
          · rcases Nat.lt_or_ge (acc.length + 1) q.length with c3 | c3
            · exact ih.1 (by rw [List.length_append, List.length_singleton]; omega)
            · omega
          · rw [ih.2.1, List.length_append, List.length_singleton, List.drop_eq_getElem_cons c, List.map_cons]
            rw [e]
            simp [convP]
          · intro y hy
            rw [List.drop_eq_getElem_cons c] at hy
            rcases List.mem_cons.1 hy with rfl | hy
            · rw [← e]
              simpa using c1
            · exact ih.2.2 y (by rw [List.length_append, List.length_singleton]; exact hy)
        · cases h
      · cases h
    · rw [if_neg (by omega)] at h
      obtain rfl := Option.some.inj h
      rw [List.drop_eq_nil_of_le (by omega)]
      exact ⟨fun c2 => absurd c2 c, by simp, fun y hy => by cases hy⟩
end Go.Proofs.Ytnkpmogpmcggiaa

/- The tree that choices tell, in plain words; worlds that are the same but for one block. -/
set_option linter.unusedVariables false
set_option linter.unusedSimpArgs false
namespace Go.Proofs.Ytnkpmogpmcggiaa
open Go.RowKit Go.Proofs.YtnkpmogpmcggiaaW.PrintWords Go.Proofs.YtnkpmogpmcggiaaW.PrintLast Go.Proofs.YtnkpmogpmcggiaaW.PrintMore

/-- The productions of a symbol among the first n. -/
def ownG (q : List S64) (s : Int) : Nat → List Int
  | 0 => []
  | n + 1 => if (rd_T64 q n).f0 = s then ownG q s n ++ [(n : Int)] else ownG q s n
def pickG (own : List Int) (pick : Int) : Int := rd own (Int.tmod (Int.tmod pick own.length + own.length) own.length)
def kidsG (f : Int → Nat → Option (Option S30 × Nat)) : List Int → Nat → Option (Option (List S30) × Nat)
  | [], n => some (some [], n)
  | s :: r, n => (f s n).bind fun t => match t.1 with
      | none => some (none, t.2)
      | some x => (kidsG f r t.2).bind fun u => some (u.1.map (x :: ·), u.2)
def grownG (q : List S64) (choices : List Int) : Nat → Int → Nat → Option (Option S30 × Nat)
  | 0, _, _ => none
  | k + 1, s, n => if s < 0 then some (some ⟨s, []⟩, n) else if choices.length ≤ n ∨ 60 < n then some (none, n) else if ownG q s q.length = [] then some (none, n + 1) else
      (kidsG (grownG q choices k) (rd_T64 q (pickG (ownG q s q.length) (rd choices n))).f1 (n + 1)).bind fun u => some (u.1.map (⟨pickG (ownG q s q.length) (rd choices n), ·⟩), u.2)

theorem ownG_length (q : List S64) (s : Int) : ∀ n, (ownG q s n).length ≤ n
  | 0 => Nat.le_refl _
  | n + 1 => by
    have := ownG_length q s n
    unfold ownG
    split
    · rw [List.length_append, List.length_singleton]; omega
    · omega
theorem ownG_mem (q : List S64) (s : Int) : ∀ n, ∀ i ∈ ownG q s n, 0 ≤ i ∧ i < n ∧ (rd_T64 q i).f0 = s
  | 0, i, h => by cases h
  | n + 1, i, h => by
    unfold ownG at h
    split at h
    · rename_i e
      rcases List.mem_append.1 h with h | h
      · obtain ⟨a, b, c⟩ := ownG_mem q s n i h
        exact ⟨a, by omega, c⟩
      · obtain rfl := List.mem_singleton.1 h
        exact ⟨by omega, by omega, e⟩
    · obtain ⟨a, b, c⟩ := ownG_mem q s n i h
      exact ⟨a, by omega, c⟩
/-- A remainder that is none below 0. -/
theorem rem_range (x : Int) (m : Nat) (hm : 0 < m) : 0 ≤ Int.tmod (Int.tmod x m + m) m ∧ Int.tmod (Int.tmod x m + m) m < m := by
  have h1 := Int.tmod_lt_of_pos x (show (0 : Int) < (m : Int) by omega)
  have h2 : -(m : Int) < Int.tmod x m := by
    rcases Int.le_total 0 x with h | h
    · have := Int.tmod_nonneg (m : Int) h; omega
    · have := Int.tmod_lt_of_pos (-x) (show (0 : Int) < (m : Int) by omega)
      rw [Int.neg_tmod] at this
      omega
  have h3 : 0 ≤ Int.tmod x m + m := by omega
  exact ⟨Int.tmod_nonneg _ h3, Int.tmod_lt_of_pos _ (by omega)⟩
theorem rem_eq (x : Int) (m : Nat) (hm : 0 < m) : Int.tmod (Int.tmod x m + m) m = x % m := by
  have h1 := Int.tmod_lt_of_pos x (show (0 : Int) < (m : Int) by omega)
  have h2 : -(m : Int) < Int.tmod x m := by
    rcases Int.le_total 0 x with h | h
    · have := Int.tmod_nonneg (m : Int) h; omega
    · have := Int.tmod_lt_of_pos (-x) (show (0 : Int) < (m : Int) by omega)
      rw [Int.neg_tmod] at this
      omega
  rw [Int.tmod_eq_emod_of_nonneg (by omega), Int.add_emod_right]
  have h4 := Int.tmod_add_mul_tdiv x m
  have h5 : x % m = (Int.tmod x m + m * Int.tdiv x m) % m := by rw [h4]
  rw [h5, Int.add_mul_emod_self_left]
theorem pickG_mem (q : List S64) (s : Int) (own : List Int) (x : Int) (h : own ≠ []) : pickG own x ∈ own := by
  have hl : 0 < own.length := List.length_pos_iff.2 h
  obtain ⟨a, b⟩ := rem_range x own.length hl
  unfold pickG rd
  rw [List.getD_eq_getElem?_getD, List.getElem?_eq_getElem (by omega)]
  exact List.getElem_mem _
theorem kidsG_cons {f : Int → Nat → Option (Option S30 × Nat)} {s : Int} {r : List Int} {n : Nat} {u : Option (List S30)} {m : Nat} (h : kidsG f (s :: r) n = some (u, m)) :
    (∃ n', f s n = some (none, n') ∧ u = none ∧ m = n') ∨ ∃ x n' u', f s n = some (some x, n') ∧ kidsG f r n' = some (u', m) ∧ u = u'.map (x :: ·) := by
  unfold kidsG at h
  cases hf : f s n with
  | none => rw [hf] at h; cases h
  | some t =>
    obtain ⟨t1, t2⟩ := t
    rw [hf] at h
    cases t1 with
    | none =>
      simp only [Option.bind_some, Option.some.injEq, Prod.mk.injEq] at h
      exact .inl ⟨t2, rfl, h.1.symm, h.2.symm⟩
    | some x =>
      simp only [Option.bind_some] at h
      cases hk : kidsG f r t2 with
      | none => rw [hk] at h; cases h
      | some v =>
        obtain ⟨v1, v2⟩ := v
        rw [hk] at h
        simp only [Option.bind_some, Option.some.injEq, Prod.mk.injEq] at h
        obtain ⟨rfl, rfl⟩ := h
        exact .inr ⟨x, t2, v1, rfl, hk, rfl⟩
/-- How far the choices go. -/
theorem kidsG_at {f : Int → Nat → Option (Option S30 × Nat)} (hf : ∀ s n o m, n ≤ 61 → f s n = some (o, m) → n ≤ m ∧ m ≤ 61) : ∀ (r : List Int) (n : Nat) (u : Option (List S30)) (m : Nat), n ≤ 61 → kidsG f r n = some (u, m) → n ≤ m ∧ m ≤ 61
  | [], n, u, m, hn, h => by
    simp only [kidsG, Option.some.injEq, Prod.mk.injEq] at h
    omega
  | s :: r, n, u, m, hn, h => by
    rcases kidsG_cons h with ⟨n', h1, _, rfl⟩ | ⟨x, n', u', h1, h2, _⟩
    · exact hf _ _ _ _ hn h1
    · have a := hf _ _ _ _ hn h1
      have b := kidsG_at hf r n' u' m a.2 h2
      omega
theorem grownG_at (q : List S64) (choices : List Int) : ∀ (k : Nat) (s : Int) (n : Nat) (o : Option S30) (m : Nat), n ≤ 61 → grownG q choices k s n = some (o, m) → n ≤ m ∧ m ≤ 61
  | 0, s, n, o, m, _, h => by cases h
  | k + 1, s, n, o, m, hn, h => by
    unfold grownG at h
    split at h
    · simp only [Option.some.injEq, Prod.mk.injEq] at h; omega
    · split at h
      · simp only [Option.some.injEq, Prod.mk.injEq] at h; omega
      · split at h
        · simp only [Option.some.injEq, Prod.mk.injEq] at h; omega
        · cases hk : kidsG (grownG q choices k) (rd_T64 q (pickG (ownG q s q.length) (rd choices n))).f1 (n + 1) with
          | none => rw [hk] at h; cases h
          | some u =>
            obtain ⟨u1, u2⟩ := u
            rw [hk] at h
            simp only [Option.bind_some, Option.some.injEq, Prod.mk.injEq] at h
            have := kidsG_at (grownG_at q choices k) _ _ _ _ (by omega) hk
            omega
/-- There are rounds enough. -/
theorem kidsG_some {f : Int → Nat → Option (Option S30 × Nat)} (lo : Nat) (hf : ∀ s n, lo ≤ n → n ≤ 61 → ∃ o m, f s n = some (o, m) ∧ n ≤ m ∧ m ≤ 61) : ∀ (r : List Int) (n : Nat), lo ≤ n → n ≤ 61 → ∃ u m, kidsG f r n = some (u, m) ∧ n ≤ m ∧ m ≤ 61
  | [], n, hl, hn => ⟨_, _, rfl, Nat.le_refl _, hn⟩
  | s :: r, n, hl, hn => by
    obtain ⟨o, m, h1, h2, h3⟩ := hf s n hl hn
    unfold kidsG
    rw [h1]
    cases o with
    | none => exact ⟨_, _, rfl, h2, h3⟩
    | some x =>
      obtain ⟨u, m', h4, h5, h6⟩ := kidsG_some lo hf r m (by omega) h3
      simp only [Option.bind_some, h4]
      exact ⟨_, _, rfl, by omega, h6⟩
theorem grownG_some (q : List S64) (choices : List Int) : ∀ (k : Nat) (s : Int) (n : Nat), n ≤ 61 → 62 ≤ k + n → 0 < k → ∃ o m, grownG q choices k s n = some (o, m) ∧ n ≤ m ∧ m ≤ 61
  | 0, s, n, hn, hk, h0 => by omega
  | k + 1, s, n, hn, hk, h0 => by
    unfold grownG
    split
    · exact ⟨_, _, rfl, Nat.le_refl _, hn⟩
    · split
      · exact ⟨_, _, rfl, Nat.le_refl _, hn⟩
      · split
        · exact ⟨_, _, rfl, by omega, by omega⟩
        · obtain ⟨u, m, h1, h2, h3⟩ := kidsG_some (f := grownG q choices k) (n + 1) (fun s n' h1 h2 => grownG_some q choices k s n' h2 (by omega) (by omega)) (rd_T64 q (pickG (ownG q s q.length) (rd choices n))).f1 (n + 1) (Nat.le_refl _) (by omega)
          rw [h1]
          exact ⟨_, _, rfl, by omega, h3⟩

/-- The same but for block g. -/
structure But (W w' : World) (g : Nat) : Prop where
  os : w'.os = W.os
  tape : w'.tape = W.tape
  output : w'.output = W.output
  size : W.heap.size ≤ w'.heap.size
  block : ∀ k, k < W.heap.size → k ≠ g → w'.heap[k]? = W.heap[k]?
theorem But.refl (W : World) (g : Nat) : But W W g := ⟨rfl, rfl, rfl, Nat.le_refl _, fun _ _ _ => rfl⟩
theorem But.trans {a b c : World} {g : Nat} (h : But a b g) (k : But b c g) : But a c g :=
  ⟨k.os.trans h.os, k.tape.trans h.tape, k.output.trans h.output, Nat.le_trans h.size k.size, fun i hi hg => (k.block i (Nat.lt_of_lt_of_le hi h.size) hg).trans (h.block i hi hg)⟩
theorem But.of_below {W w' : World} (h : Below W.heap.size W w') (g : Nat) : But W w' g := ⟨h.os, h.tape, h.output, h.size, fun k hk _ => h.block k hk⟩
theorem But.below {W w' : World} {g B : Nat} (h : But W w' g) (hB : B ≤ g) (hS : B ≤ W.heap.size) : Below B W w' := ⟨h.os, h.tape, h.output, h.size, fun k hk => h.block k (by omega) (by omega)⟩
theorem But.set_ {W w' : World} {g : Nat} (h : But W w' g) (j : Nat) (u : Value) : But W (w'.setCell ⟨g, j, none⟩ u) g :=
  ⟨h.os, h.tape, h.output, by simpa [World.setCell] using h.size, fun k hk hne => (Below.heap_setCell _ _ _ _ hne).trans (h.block k hk hne)⟩
theorem R_but {α : Type} {d : Kd α} {e base : Nat} {W w' : World} {v : Value} {xs : List α} {g : Nat} (h : d.R e W base (fun _ => True) v xs) (hb : But W w' g) (hg : g < base) : d.R e w' base (fun _ => True) v xs :=
  Kd.R_mono (Kd.R_step (Kd.R_bound h) (fun k hk hlt => hb.block k hlt (by have := hk.2.1; omega))) (fun _ _ => trivial)
def resT : Option S30 → S30
  | some t => t
  | none => ⟨0, []⟩
def GrownPost (W : World) (ga : Nat) (o : Option S30) (n' : Nat) (e : Ending) (w' : World) : Prop :=
  ∃ (A : Option Addr) (c : Nat), e = .returned (.tuple #[.agg #[.int .i64 (resT o).f0, .slice A (resT o).f1.length c], .bool o.isSome]) ∧ Kd.R k30 30 w' W.heap.size (fun _ => True) (.slice A (resT o).f1.length c) (resT o).f1 ∧
    w'.heap[ga]? = some (.cells #[.int .i64 (n' : Int)] 3 (0, 0)) ∧ But W w' ga
end Go.Proofs.Ytnkpmogpmcggiaa

/- The grammars that the laws make out of raw numbers: they are made, and what they are good for. -/
set_option linter.unusedVariables false
set_option linter.unusedSimpArgs false
namespace Go.Proofs.Ytnkpmogpmcggiaa
open Go.RowKit Go.Proofs.YtnkpmogpmcggiaaW.PrintWords Go.Proofs.YtnkpmogpmcggiaaW.PrintLast Go.Proofs.YtnkpmogpmcggiaaW.PrintMore

/-- Names of one letter. -/
def nameL (b : Int) (c : Nat) : List ByteArray := (List.range c).map fun (i : Nat) => strOfNums [(wrap64 (b + (i : Int))) % 256]
theorem nameL_succ (b : Int) (c : Nat) : nameL b (c + 1) = nameL b c ++ [strOfNums [(wrap64 (b + (c : Int))) % 256]] := by
  unfold nameL; rw [List.range_succ, List.map_append]; rfl
theorem nameL_length (b : Int) (c : Nat) : (nameL b c).length = c := by unfold nameL; rw [List.length_map, List.length_range]
/-- The productions so far: left sides up to c, at most L of them. -/
structure PInv (n t c : Int) (L : Nat) (q : List S64) : Prop where
  all : ∀ y ∈ q, 0 ≤ y.f0 ∧ y.f0 ≤ c ∧ y.f1.length ≤ 4 ∧ ∀ s ∈ y.f1, -t ≤ s ∧ s < n
  sorted : q.Pairwise fun a b => a.f0 ≤ b.f0
  len : q.length ≤ L
theorem PInv.mono {n t c c' : Int} {L L' : Nat} {q : List S64} (h : PInv n t c L q) (hc : c ≤ c') (hL : L ≤ L') : PInv n t c' L' q :=
  ⟨fun y hy => by obtain ⟨a, b, d, e⟩ := h.all y hy; exact ⟨a, by omega, d, e⟩, h.sorted, Nat.le_trans h.len hL⟩
theorem PInv.snoc {n t c : Int} {L : Nat} {q : List S64} (h : PInv n t c L q) (h0 : 0 ≤ c) {x : List Int} (hx : x.length ≤ 4) (hs : ∀ s ∈ x, -t ≤ s ∧ s < n) : PInv n t c (L + 1) (q ++ [⟨c, x⟩]) := by
  refine ⟨fun y hy => ?_, ?_, by rw [List.length_append, List.length_singleton]; have := h.len; omega⟩
  · rcases List.mem_append.1 hy with hy | hy
    · exact h.all y hy
    · obtain rfl := List.mem_singleton.1 hy
      exact ⟨h0, Int.le_refl _, hx, hs⟩
  · rw [List.pairwise_append]
    refine ⟨h.sorted, List.pairwise_singleton _ _, fun a ha b hb => ?_⟩
    obtain rfl := List.mem_singleton.1 hb
    exact (h.all a ha).2.1
/-- What the function answers. -/
abbrev MR := Int × Int × List ByteArray × List ByteArray × (List (S39)) × Int × Int × List ByteArray × List ByteArray × (List (S64))
def MadeR (n t s0 : Int) (nm tm : List ByteArray) (r : MR) : Prop := ∃ q : List S64, r = (s0, n, nm, tm, q.map convP, s0, n, nm, tm, q) ∧ PInv n t (n - 1) 48 q

theorem sym_range (a n t : Int) (n0 : 1 ≤ n) (n1 : n ≤ 4) (t0 : 0 ≤ t) (t1 : t ≤ 3) :
    wrap64 (n + t) ≠ 0 ∧ -t ≤ wrap64 ((Int.tmod (wrap64 ((wrap64 ((Int.tmod a (wrap64 (n + t))) + n)) + t)) (wrap64 (n + t))) - t) ∧ wrap64 ((Int.tmod (wrap64 ((wrap64 ((Int.tmod a (wrap64 (n + t))) + n)) + t)) (wrap64 (n + t))) - t) < n := by
  obtain ⟨m, hm⟩ := Int.eq_ofNat_of_zero_le (show 0 ≤ n + t by omega)
  have e1 : wrap64 (n + t) = (m : Int) := by rw [← hm]; unfold wrap64; omega
  rw [e1]
  have hm0 : 0 < m := by omega
  have h1 := Int.tmod_lt_of_pos a (show (0 : Int) < (m : Int) by omega)
  have h2 : -(m : Int) < Int.tmod a m := by
    rcases Int.le_total 0 a with h | h
    · have := Int.tmod_nonneg (m : Int) h; omega
    · have := Int.tmod_lt_of_pos (-a) (show (0 : Int) < (m : Int) by omega)
      rw [Int.neg_tmod] at this
      omega
  have e2 : wrap64 (Int.tmod a m + n) = Int.tmod a m + n := by unfold wrap64; omega
  have e3 : wrap64 (Int.tmod a m + n + t) = Int.tmod a m + m := by unfold wrap64; omega
  rw [e2, e3]
  obtain ⟨h3, h4⟩ := rem_range a m hm0
  have e4 : wrap64 (Int.tmod (Int.tmod a m + m) m - t) = Int.tmod (Int.tmod a m + m) m - t := by unfold wrap64; omega
  rw [e4]
  omega

section
variable {n t a0 a1 a2 s0 : Int} {l3 : List Int} {l4 : List (List Int)} {nm tm : List ByteArray}
theorem l5_ex (p0 p1 s1 : Int) (pn pt : List ByteArray) (q : List S64) (hq : q.length ≤ 1000) (hy : ∀ y ∈ q, y.f1.length ≤ 4) : ∀ (d : Nat) (acc : List S39), acc.length + d = q.length → ∃ k r, primerlaw15_made.l5 k (acc.length : Int) s0 s1 nm tm q p0 p1 pn pt acc = some r
  | 0, acc, h => ⟨1, _, by unfold primerlaw15_made.l5; rw [if_neg (by omega)]⟩
  | d + 1, acc, h => by
    have hlt : acc.length < q.length := by omega
    have e : rd_T64 q (acc.length : Int) = q[acc.length] := by simp [rd_T64, List.getD_eq_getElem?_getD, List.getElem?_eq_getElem hlt]
    have hl := hy _ (List.getElem_mem hlt)
    obtain ⟨k, r, ih⟩ := l5_ex p0 p1 s1 pn pt q hq hy d (acc ++ [⟨(rd_T64 q acc.length).f0, [] ++ (rd_T64 q acc.length).f1⟩]) (by rw [List.length_append, List.length_singleton]; omega)
    refine ⟨k + 1, r, ?_⟩
    unfold primerlaw15_made.l5
    rw [if_pos (by omega), if_pos (by omega)]
    simp only [Option.bind_some]
    rw [if_pos (by rw [e]; simp; omega), if_pos (by omega)]
    have e2 : wrap64 ((acc.length : Int) + 1) = (((acc ++ [(⟨(rd_T64 q acc.length).f0, [] ++ (rd_T64 q acc.length).f1⟩ : S39)]).length : Nat) : Int) := by
      rw [List.length_append, List.length_singleton]; unfold wrap64; omega
    rw [e2]
    exact ih

variable (n0 : 1 ≤ n) (n1 : n ≤ 4) (t0 : 0 ≤ t) (t1 : t ≤ 3)
include n0 n1 t0 t1

theorem l4_ex (G : MR → Prop) (c : Int) (i : Nat) (hi : i < l4.length) (hi2 : i < 12) (q : List S64) (hq : q.length ≤ 1000)
    (K : ∀ x : List Int, x.length ≤ 4 → (∀ s ∈ x, -t ≤ s ∧ s < n) → ∃ k r, primerlaw15_made.l3 k n t c (wrap64 ((i : Int) + 1)) a0 a1 a2 l3 l4 s0 n nm tm (q ++ [⟨c, x⟩]) = some r ∧ G r) :
    ∀ (d j : Nat) (x : List Int), j + d = 4 → x.length = j → (∀ s ∈ x, -t ≤ s ∧ s < n) → ∃ k r, primerlaw15_made.l4 k n t c i x j a0 a1 a2 l3 l4 s0 n nm tm q = some r ∧ G r
  | 0, j, x, hj, hx, hs => by
    obtain ⟨k, r, h, hG⟩ := K x (by omega) hs
    refine ⟨k + 1, r, ?_, hG⟩
    unfold primerlaw15_made.l4
    rw [if_pos (by omega), if_pos (by omega)]
    split
    · rw [if_neg (by omega), if_pos (by omega)]; exact h
    · rw [if_pos (by omega)]; exact h
  | d + 1, j, x, hj, hx, hs => by
    by_cases c1 : (j : Int) < ((rd_L2 l4 (i : Int)).length : Int)
    · obtain ⟨h1, h2, h3⟩ := sym_range (rd (rd_L2 l4 (i : Int)) (j : Int)) n t n0 n1 t0 t1
      obtain ⟨k, r, h, hG⟩ := l4_ex G c i hi hi2 q hq K d (j + 1) (x ++ [wrap64 ((Int.tmod (wrap64 ((wrap64 ((Int.tmod (rd (rd_L2 l4 (i : Int)) (j : Int)) (wrap64 (n + t))) + n)) + t)) (wrap64 (n + t))) - t)]) (by omega) (by rw [List.length_append, List.length_singleton]; omega) (fun s hs2 => by
        rcases List.mem_append.1 hs2 with h | h
        · exact hs s h
        · obtain rfl := List.mem_singleton.1 h
          exact ⟨h2, h3⟩)
      refine ⟨k + 1, r, ?_, hG⟩
      unfold primerlaw15_made.l4
      rw [if_pos (by omega), if_pos (by omega), if_pos c1, if_pos (by omega), if_pos (by omega), if_neg h1, if_pos (by omega)]
      rw [show wrap64 ((j : Int) + 1) = ((j + 1 : Nat) : Int) from by unfold wrap64; omega]
      exact h
    · obtain ⟨k, r, h, hG⟩ := K x (by omega) hs
      refine ⟨k + 1, r, ?_, hG⟩
      unfold primerlaw15_made.l4
      rw [if_pos (by omega), if_pos (by omega), if_neg c1, if_pos (by omega)]
      exact h
theorem l3_ex (G : MR → Prop) (c : Nat) (L : Nat) (hL : L ≤ 100)
    (K : ∀ q, PInv n t c (L + 12) q → ∃ k r, primerlaw15_made.l2 k n t (wrap64 ((c : Int) + 1)) a0 a1 a2 l3 l4 s0 n nm tm q = some r ∧ G r) :
    ∀ (d i : Nat) (q : List S64), i + d = 12 → PInv n t c (L + i) q → ∃ k r, primerlaw15_made.l3 k n t c i a0 a1 a2 l3 l4 s0 n nm tm q = some r ∧ G r
  | d, i, q, hi, hq => by
    have hend : ∃ k r, primerlaw15_made.j4 k n t c i false a0 a1 a2 l3 l4 s0 n nm tm q = some r ∧ G r := by
      obtain ⟨k, r, h, hG⟩ := K q (hq.mono (Int.le_refl _) (by omega))
      refine ⟨k + 1, r, ?_, hG⟩
      unfold primerlaw15_made.j4
      rw [if_neg (by simp)]
      exact h
    by_cases c1 : i < l3.length
    · by_cases c2 : i < l4.length
      · match d, hi with
        | 0, hi =>
          obtain ⟨k, r, h, hG⟩ := hend
          refine ⟨k + 1, r, ?_, hG⟩
          unfold primerlaw15_made.l3
          rw [if_pos (by omega), if_pos (by omega), decide_eq_false (by omega)]
          exact h
        | d + 1, hi =>
          have hw : wrap64 ((i : Int) + 1) = ((i + 1 : Nat) : Int) := by unfold wrap64; omega
          have hj : ∃ k r, primerlaw15_made.j4 k n t c i true a0 a1 a2 l3 l4 s0 n nm tm q = some r ∧ G r := by
            by_cases c3 : (Int.tmod (wrap64 ((Int.tmod (rd l3 (i : Int)) n) + n)) n) = (c : Int)
            · obtain ⟨k, r, h, hG⟩ := l4_ex (l3 := l3) (a0 := a0) (a1 := a1) (a2 := a2) (s0 := s0) (nm := nm) (tm := tm) n0 n1 t0 t1 G c i c2 (by omega) q (by have := hq.len; omega) (fun x hx hs => by
                rw [hw]
                exact l3_ex G c L hL K d (i + 1) (q ++ [⟨c, x⟩]) (by omega) (by rw [← Nat.add_assoc]; exact hq.snoc (by omega) hx hs)) 4 0 [] rfl rfl (fun s hs => by cases hs)
              refine ⟨k + 1, r, ?_, hG⟩
              unfold primerlaw15_made.j4
              rw [if_pos rfl, if_pos (by omega), if_pos (by omega), if_neg (by omega), if_pos c3]
              exact h
            · obtain ⟨k, r, h, hG⟩ := l3_ex G c L hL K d (i + 1) q (by omega) (hq.mono (Int.le_refl _) (by omega))
              refine ⟨k + 1, r, ?_, hG⟩
              unfold primerlaw15_made.j4
              rw [if_pos rfl, if_pos (by omega), if_pos (by omega), if_neg (by omega), if_neg c3, hw]
              exact h
          obtain ⟨k, r, h, hG⟩ := hj
          refine ⟨k + 1, r, ?_, hG⟩
          unfold primerlaw15_made.l3
          rw [if_pos (by omega), if_pos (by omega), decide_eq_true (by omega)]
          exact h
      · obtain ⟨k, r, h, hG⟩ := hend
        refine ⟨k + 1, r, ?_, hG⟩
        unfold primerlaw15_made.l3
        rw [if_pos (by omega), if_neg (by omega)]
        exact h
    · obtain ⟨k, r, h, hG⟩ := hend
      refine ⟨k + 1, r, ?_, hG⟩
      unfold primerlaw15_made.l3
      rw [if_neg (by omega)]
      exact h
termination_by d => d
theorem l2_ex (hnm : nm.length ≤ 1000) (htm : tm.length ≤ 1000) : ∀ (d c : Nat) (q : List S64), (c : Int) + d = n → PInv n t (c - 1) (12 * c) q → ∃ k r, primerlaw15_made.l2 k n t c a0 a1 a2 l3 l4 s0 n nm tm q = some r ∧ MadeR n t s0 nm tm r
  | 0, c, q, h, hq => by
    have hlen := hq.len
    have hall := hq.all
    obtain ⟨k, r, hr⟩ := l5_ex (s0 := s0) (nm := nm) (tm := tm) s0 n n nm tm q (by omega) (fun y hy => (hall y hy).2.2.1) q.length [] (by simp)
    obtain ⟨_, hr2, _⟩ := made_l5 k [] s0 n nm tm q s0 n nm tm r hr (Nat.zero_le _)
    refine ⟨k + 1, r, ?_, q, ?_, hq.mono (by omega) (by omega)⟩
    · unfold primerlaw15_made.l2
      rw [if_neg (by omega)]
      simp only [Option.bind_some, List.length_nil, Nat.zero_add, List.nil_append]
      rw [if_pos (by omega), if_pos (by omega)]
      exact hr
    · simpa using hr2
  | d + 1, c, q, h, hq => by
    obtain ⟨k, r, h1, h2⟩ := l3_ex (l3 := l3) (l4 := l4) (a0 := a0) (a1 := a1) (a2 := a2) (s0 := s0) (nm := nm) (tm := tm) n0 n1 t0 t1 (MadeR n t s0 nm tm) c (12 * c) (by omega) (fun q' hq' => by
      rw [show wrap64 ((c : Int) + 1) = ((c + 1 : Nat) : Int) from by unfold wrap64; omega]
      exact l2_ex hnm htm d (c + 1) q' (by omega) (hq'.mono (by omega) (by omega))) 12 0 q rfl (hq.mono (by omega) (by omega))
    refine ⟨k + 1, r, ?_, h2⟩
    unfold primerlaw15_made.l2
    rw [if_pos (by omega)]
    exact h1
theorem l1_ex (hnm : nm.length ≤ 1000) : ∀ (d c : Nat), (c : Int) + d = t → ∃ k r, primerlaw15_made.l1 k n t c a0 a1 a2 l3 l4 s0 n nm (nameL 97 c) = some r ∧ MadeR n t s0 nm (nameL 97 t.toNat) r
  | 0, c, h => by
    obtain rfl : t = (c : Int) := by omega
    obtain ⟨k, r, h1, h2⟩ := l2_ex (l3 := l3) (l4 := l4) (a0 := a0) (a1 := a1) (a2 := a2) (s0 := s0) (nm := nm) (tm := nameL 97 c) n0 n1 t0 t1 hnm (by rw [nameL_length]; omega) n.toNat 0 [] (by omega) ⟨fun y hy => (by cases hy), List.Pairwise.nil, Nat.zero_le _⟩
    refine ⟨k + 1, r, ?_, by rw [Int.toNat_natCast]; exact h2⟩
    unfold primerlaw15_made.l1
    rw [if_neg (by omega)]
    exact h1
  | d + 1, c, h => by
    obtain ⟨k, r, h1, h2⟩ := l1_ex hnm d (c + 1) (by omega)
    refine ⟨k + 1, r, ?_, h2⟩
    unfold primerlaw15_made.l1
    rw [if_pos (by omega), if_pos (by rw [nameL_length]; omega), ← nameL_succ, show wrap64 ((c : Int) + 1) = ((c + 1 : Nat) : Int) from by unfold wrap64; omega]
    exact h1
theorem l0_ex : ∀ (d c : Nat), (c : Int) + d = n → ∃ k r, primerlaw15_made.l0 k n t c a0 a1 a2 l3 l4 s0 n (nameL 65 c) = some r ∧ MadeR n t s0 (nameL 65 n.toNat) (nameL 97 t.toNat) r
  | 0, c, h => by
    obtain rfl : n = (c : Int) := by omega
    obtain ⟨k, r, h1, h2⟩ := l1_ex (l3 := l3) (l4 := l4) (a0 := a0) (a1 := a1) (a2 := a2) (s0 := s0) (nm := nameL 65 c) n0 n1 t0 t1 (by rw [nameL_length]; omega) t.toNat 0 (by omega)
    refine ⟨k + 1, r, ?_, by rw [Int.toNat_natCast]; exact h2⟩
    unfold primerlaw15_made.l0
    rw [if_neg (by omega)]
    exact h1
  | d + 1, c, h => by
    obtain ⟨k, r, h1, h2⟩ := l0_ex d (c + 1) (by omega)
    refine ⟨k + 1, r, ?_, h2⟩
    unfold primerlaw15_made.l0
    rw [if_pos (by omega), if_pos (by rw [nameL_length]; omega), ← nameL_succ, show wrap64 ((c : Int) + 1) = ((c + 1 : Nat) : Int) from by unfold wrap64; omega]
    exact h1
end
theorem and3 (a : Int) : 0 ≤ Go.bits .and .i64 a 3 ∧ Go.bits .and .i64 a 3 ≤ 3 := by
  have h : Go.bits .and .i64 a 3 = a % 4 := by
    have h7 : (BitVec.ofInt 64 3).toNat = 2 ^ 2 - 1 := by decide
    have key : (BitVec.ofInt 64 a &&& BitVec.ofInt 64 3).toNat = (a % ((2 ^ 64 : Nat) : Int)).toNat % 2 ^ 2 := by
      rw [BitVec.toNat_and, BitVec.toNat_ofInt, h7, Nat.and_two_pow_sub_one_eq_mod]
    show IntKind.i64.wrap ((BitVec.ofInt 64 a &&& BitVec.ofInt 64 3).toNat : Nat) = a % 4
    rw [key, IntKind.wrap_i64]
    omega
  rw [h]; omega
/-- The grammars are made. -/
theorem made_some (a0 a1 a2 : Int) (l3 : List Int) (l4 : List (List Int)) : ∃ (n t s0 : Int) (k : Nat) (r : MR), primerlaw15_made.f k a0 a1 a2 l3 l4 = some r ∧ 1 ≤ n ∧ n ≤ 4 ∧ 0 ≤ t ∧ t ≤ 3 ∧ 0 ≤ s0 ∧ s0 < n ∧ MadeR n t s0 (nameL 65 n.toNat) (nameL 97 t.toNat) r := by
  obtain ⟨b1, b2⟩ := and3 a0
  obtain ⟨b3, b4⟩ := and3 a1
  generalize hn : wrap64 (1 + (Go.bits .and .i64 a0 3)) = n
  have n0 : 1 ≤ n ∧ n ≤ 4 := by rw [← hn]; unfold wrap64; omega
  obtain ⟨m, rfl⟩ := Int.eq_ofNat_of_zero_le (show 0 ≤ n by omega)
  obtain ⟨h1, h2⟩ := rem_range a2 m (by omega)
  have h3 := Int.tmod_lt_of_pos a2 (show (0 : Int) < (m : Int) by omega)
  have h4 : -(m : Int) < Int.tmod a2 m := by
    rcases Int.le_total 0 a2 with h | h
    · have := Int.tmod_nonneg (m : Int) h; omega
    · have := Int.tmod_lt_of_pos (-a2) (show (0 : Int) < (m : Int) by omega)
      rw [Int.neg_tmod] at this
      omega
  obtain ⟨k, r, e1, e2⟩ := l0_ex (n := m) (t := Go.bits .and .i64 a1 3) (a0 := a0) (a1 := a1) (a2 := a2) (s0 := Int.tmod (Int.tmod a2 m + m) m) (l3 := l3) (l4 := l4) n0.1 n0.2 b3 b4 m 0 (by omega)
  refine ⟨m, Go.bits .and .i64 a1 3, Int.tmod (Int.tmod a2 m + m) m, k, r, ?_, n0.1, n0.2, b3, b4, h1, h2, e2⟩
  unfold primerlaw15_made.f
  rw [hn, if_neg (by omega), show wrap64 (Int.tmod a2 m + m) = Int.tmod a2 m + m from by unfold wrap64; omega]
  exact e1
end Go.Proofs.Ytnkpmogpmcggiaa
