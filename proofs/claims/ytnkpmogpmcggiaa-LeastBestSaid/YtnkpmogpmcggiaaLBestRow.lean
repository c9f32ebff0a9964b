/- LeastBest returns true for every raw grammar and all choices: no tree of the same word has fewer nodes than the least one, or as many and a smaller Prod at its root. Conditions: none beyond the row's own. -/
import Derived.Test.YtnkpmogpmcggiaaRows
import Derived.Test.YtnkpmogpmcggiaaRow
import Derived.Test.YtnkpmogpmcggiaaLBestP
import Derived.Test.YtnkpmogpmcggiaaWWords
import Derived.Test.YtnkpmogpmcggiaaChecked
import Derived.WalkKit
import Derived.ProofKit
import Derived.OpenShut
import Derived.Lib.SmallJoins
import Derived.Deep.Matrix
set_option linter.unusedVariables false
set_option linter.unusedSimpArgs false
namespace Go.Proofs.Ytnkpmogpmcggiaa
open Go.Joins Go.ChangeShapes Go.WideShapes Go.RowKit Go.Deep Go.Proofs.YtnkpmogpmcggiaaW.PrintWords

section
variable {H : Type} {enc : TypeId × Value → H} {P : Program} {w : World} {base : Nat} {held : Bool}
theorem open_agg5 {r : Reach} {b0 : Nat} {t : TypeId} {f0 f1 f2 f3 f4 : Field} {v : Value} {d : DataW H} {p : List MemPlace} {spare : Nat → Bool} (hs : P.underlying t = some (.struct #[f0, f1, f2, f3, f4])) (hone : oneCellFields P #[f0, f1, f2, f3, f4] = true) (hC : P.cellsOf t = 5)
    (hv : Value.okWide P w r b0 t v) (h : DataW.Trod enc P w base spare held t v d p) :
    ∃ (v0 v1 v2 v3 v4 : Value) (y0 y1 y2 y3 y4 : DataW H × List MemPlace) (n : Nat), v = .agg #[v0, v1, v2, v3, v4] ∧ d = .agg [y0.1, y1.1, y2.1, y3.1, y4.1] ∧ p = y0.2 ++ (y1.2 ++ (y2.2 ++ (y3.2 ++ y4.2))) ∧
      DataW.trod enc P w base spare held n f0.type [v0] = some y0 ∧ DataW.trod enc P w base spare held n f1.type [v1] = some y1 ∧ DataW.trod enc P w base spare held n f2.type [v2] = some y2 ∧ DataW.trod enc P w base spare held n f3.type [v3] = some y3 ∧ DataW.trod enc P w base spare held n f4.type [v4] = some y4 := by
  obtain ⟨cs, rfl, hsz⟩ := okWide_struct hs hv
  obtain ⟨l⟩ := cs
  match l, hsz.trans hC with
  | [c0, c1, c2, c3, c4], _ =>
    obtain ⟨fuel, hf⟩ := h
    obtain ⟨xs, n, _, hx, _, hlen, hg⟩ := DataW.trod_struct hs hf
    obtain ⟨o0, k0⟩ := hone_of hone 0 f0 rfl
    obtain ⟨o1, k1⟩ := hone_of hone 1 f1 rfl
    obtain ⟨o2, k2⟩ := hone_of hone 2 f2 rfl
    obtain ⟨o3, k3⟩ := hone_of hone 3 f3 rfl
    obtain ⟨o4, k4⟩ := hone_of hone 4 f4 rfl
    match xs, hlen with
    | [y0, y1, y2, y3, y4], _ =>
      simp only [Prod.mk.injEq] at hx
      exact ⟨c0, c1, c2, c3, c4, y0, y1, y2, y3, y4, n, rfl, by simpa using hx.1, by simpa using hx.2, by simpa [Value.cells, o0, k0] using hg 0 f0 rfl, by simpa [Value.cells, o1, k1] using hg 1 f1 rfl, by simpa [Value.cells, o2, k2] using hg 2 f2 rfl, by simpa [Value.cells, o3, k3] using hg 3 f3 rfl, by simpa [Value.cells, o4, k4] using hg 4 f4 rfl⟩
theorem nil_C {α : Type} (d : Kd α) (W : World) : Kd.C d W none 0 [] := ⟨rfl, by omega, fun h => by omega⟩
theorem ints_open {t e : TypeId} {k : IntKind} {fuel : Nat} {v : Value} {x : DataW H × List MemPlace} (ht : P.underlying t = some (.slice e)) (he : P.underlying e = some (.int k)) (hc : P.cellsOf e = 1)
    (h : DataW.trod enc P w base (fun _ => true) held fuel t [v] = some x) : ∃ (A : Option Addr) (c : Nat) (l : List Int), v = .slice A l.length c ∧ l.length ≤ c ∧ Kd.C (Kd.int k) w A l.length l := by
  rcases open_ints ht he hc h with ⟨hv, _⟩ | ⟨a, len, cap, zs, hv, _, hl, hm, hz, _, hcell, _⟩
  · obtain rfl := List.head_eq_of_cons_eq hv
    exact ⟨none, 0, [], rfl, Nat.le_refl _, nil_C _ _⟩
  · obtain rfl := List.head_eq_of_cons_eq hv
    simp only [if_true] at hz
    have hlen : (zs.take len).length = len := by rw [List.length_take]; omega
    refine ⟨some a, cap, zs.take len, by rw [hlen], by omega, ?_⟩
    rw [hlen]
    refine Kd.C_of_reads (d := 0) ⟨hlen, by unfold maxLen at hm; omega, fun _ => ⟨a, rfl, fun j hj => ?_⟩⟩
    rw [hcell j (by omega)]
    simp [List.getD_eq_getElem?_getD, List.getElem?_take, hj]
theorem rows_open {t e q : TypeId} {k : IntKind} {fuel : Nat} {v : Value} {x : DataW H × List MemPlace} (ht : P.underlying t = some (.slice e)) (he : P.underlying e = some (.slice q)) (hq : P.underlying q = some (.int k))
    (ce : P.cellsOf e = 1) (cq : P.cellsOf q = 1) (h : DataW.trod enc P w base (fun _ => true) held fuel t [v] = some x) : ∃ (A : Option Addr) (c : Nat) (l : List (List Int)), v = .slice A l.length c ∧ l.length ≤ c ∧ Kd.C (Kd.slice q (Kd.int k)) w A l.length l := by
  rcases open_int_rows ht he hq ce cq h with ⟨hv, _⟩ | ⟨a, len, cap, A, L, C, Z, hv, _, hl, hm, _, hr⟩
  · obtain rfl := List.head_eq_of_cons_eq hv
    exact ⟨none, 0, [], rfl, Nat.le_refl _, nil_C _ _⟩
  · obtain rfl := List.head_eq_of_cons_eq hv
    have hlen : ((List.range len).map fun r => (Z r).take (L r)).length = len := by rw [List.length_map, List.length_range]
    refine ⟨some a, cap, (List.range len).map fun r => (Z r).take (L r), by rw [hlen], by omega, ?_⟩
    rw [hlen]
    refine ⟨hlen, by unfold maxLen at hm; omega, fun _ => ⟨a, rfl, fun j p hp => ?_⟩⟩
    have hj : j < len := by
      obtain ⟨h1, _⟩ := List.getElem?_eq_some_iff.1 hp
      omega
    have hpe : p = (Z j).take (L j) := by
      simp [List.getElem?_map, List.getElem?_range hj] at hp
      exact hp.symm
    obtain ⟨h1, h2, h3, h4, _, h5, h6⟩ := hr j (by omega)
    have hpl : ((Z j).take (L j)).length = L j := by rw [List.length_take]; omega
    subst hpe
    refine ⟨[.slice (A j) (L j) (C j)], rfl, ⟨A j, C j, by rw [hpl], by rw [hpl]; exact h2, ?_⟩, fun i u hu => ?_⟩
    · rw [hpl]
      refine Kd.C_of_reads (d := 0) ⟨hpl, by unfold maxLen at h3; omega, fun h0 => ?_⟩
      cases hA : A j with
      | none => have := h5 hA; omega
      | some a' =>
        obtain ⟨_, h7⟩ := h6 a' hA
        refine ⟨a', rfl, fun c hc => ?_⟩
        rw [h7 c (by omega)]
        simp [List.getD_eq_getElem?_getD, List.getElem?_take, hc]
    · cases i with
      | zero =>
        simp only [List.getElem?_cons_zero, Option.some.injEq] at hu
        subst hu
        show w.cell? (a.add (j * 1 + 0)) = _
        simpa using h1
      | succ i => simp at hu
end
end Go.Proofs.Ytnkpmogpmcggiaa
namespace Go.Proofs.Ytnkpmogpmcggiaa.leastBest
open Go.ChangeShapes Go.WideShapes Go.ChangeAt Go.RowKit
set_option linter.unusedVariables false
set_option linter.unusedSimpArgs false

theorem own : ownKnob Try.prog.godebug = none := by kernel_rfl
theorem laidOut : laidOutB Try.prog = true := by kernel_rfl

set_option maxRecDepth 100000 in
theorem lifted (os : Os) (started : os.Started) (H : Type) (enc : TypeId × Value → H) :
    ReturnsInHanded {} Try.checked os 5 .any (Rows.leastBestSpec.pre6 enc Try.prog Try.f5 Rows.leastBestRow.domain false) (Rows.leastBestSpec.post enc Try.prog Try.f5 false true false false) := by
  refine returnsInHanded_of_change (C := Try.checked) own started (by kernel_rfl) Try.func5
    (ChangeSpec.witness6 (enc := enc) (C := Try.checked) false ⟨#[], #[.agg #[.int .i64 0, .int .i64 0, .int .i64 0, .slice none 0 0, .slice none 0 0], .slice none 0 0], []⟩ 8 (by kernel_rfl) (by kernel_rfl) (by kernel_rfl) (by kernel_rfl)) ?_
  intro W base args ds gs before hval0 hW hcnd _
  have hval : ∀ (j : Nat) t v, Try.f5.params[j]? = some t → args[j]? = some v → Value.okWide Try.prog W .any base t v := hval0
  have hW' := hW
  obtain ⟨p, q, hA0, hV, rfl, hfz, hnd⟩ := hW
  have hA : DataW.TrodAll enc Try.prog W 0 (fun _ => true) true Try.f5.params.toList args.toList ds p := hA0
  rw [Try.params5] at hA hval
  obtain ⟨v0, vs0, d0, ds0, p0, q0, hargs, rfl, rfl, h0, r0⟩ := trodAll_cons hA
  obtain ⟨v1, vs1, d1, ds1, p1, q1, rfl, rfl, rfl, h1, r1⟩ := trodAll_cons r0
  obtain ⟨rfl, rfl, rfl⟩ := trodAll_nil r1
  obtain rfl : args = #[v0, v1] := by cases args; simp_all
  obtain ⟨u0, u1, u2, u3, u4, y0, y1, y2, y3, y4, m, rfl, _, _, g0, g1, g2, g3, g4⟩ := open_agg5 Try.underlying45 (by kernel_rfl) (by kernel_rfl) (hval 0 45 v0 rfl rfl) h0
  obtain ⟨a0, e0, _, _⟩ := DataW.trod_int Try.underlying3 g0
  obtain ⟨a1, e1, _, _⟩ := DataW.trod_int Try.underlying3 g1
  obtain ⟨a2, e2, _, _⟩ := DataW.trod_int Try.underlying3 g2
  obtain rfl := List.head_eq_of_cons_eq e0
  obtain rfl := List.head_eq_of_cons_eq e1
  obtain rfl := List.head_eq_of_cons_eq e2
  obtain ⟨A3, c3, l3, rfl, hc3, hC3⟩ := ints_open Try.underlying34 Try.underlying3 (by kernel_rfl) g3
  obtain ⟨A4, c4, l4, rfl, hc4, hC4⟩ := rows_open Try.underlying43 Try.underlying34 Try.underlying3 (by kernel_rfl) (by kernel_rfl) g4
  obtain ⟨fu, h1f⟩ := h1
  obtain ⟨b0, b1, b2, rfl⟩ := okWide_slice Try.underlying34 (hval 1 34 v1 rfl rfl)
  obtain ⟨A1, c1, l1, e5, hc1, hC1⟩ := ints_open Try.underlying34 Try.underlying3 (by kernel_rfl) (v := .slice b0 b1 b2) h1f
  injection e5 with x1 x2 x3
  subst x1
  subst x2
  subst x3
  clear hA0 hval0
  refine (best_true a0 a1 a2 A3 c3 l3 A4 c4 l4 b0 b2 l1 W hC3 hc3 hC4 hc4 hC1 hc1).mono fun e W' ⟨he, hb⟩ => ?_
  subst he
  obtain ⟨rfl, rfl⟩ := trodVars_none hV
  exact ⟨_, rfl, law_post laidOut (by kernel_rfl) rfl rfl Try.underlying4 hW' rfl hb⟩

theorem over : Rows.leastBestRow.holds Try.pinned (OpenSpec.ofChange Rows.leastBestSpec) :=
  OpenClaim.holds_of_wide 5 Try.f5 rfl rfl rfl rfl rfl rfl rfl ⟨rfl, rfl, rfl, rfl, rfl⟩ rfl rfl rfl rfl rfl (by kernel_rfl) Try.func5 (by kernel_rfl)
    (of_decide_eq_true (by kernel_rfl)) (by unfold Func.isWrapper; first | (rw [if_pos (by decide +kernel)]; kernel_rfl) | (rw [if_neg (by decide +kernel)]; exact ⟨rfl, rfl⟩))
    (fun os started H enc _ => lifted os started H enc)

theorem proved : Rows.LeastBestSaid := over
#print axioms proved
end Go.Proofs.Ytnkpmogpmcggiaa.leastBest
