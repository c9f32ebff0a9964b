/- A row appended to an empty row of the call's own that has no room: nothing that was there is turned. -/
import Derived.Test.YtnkpmogpmcggiaaWWords
import Derived.ArgAppend
import Derived.Deep.Upon
set_option linter.unusedVariables false
set_option linter.unusedSimpArgs false
namespace Go.Proofs.Ytnkpmogpmcggiaa
open Go.RowKit Go.Proofs.YtnkpmogpmcggiaaW.PrintWords

section
variable {α : Type} {P : Program} {ops : Array Oper} {Q : Exit → Act → World → Prop} {o : Oper} {a : Act} {Kc : Act → World → Prop}
theorem run_append_fresh {enc : α → Value} {h1 : ∀ x, (enc x).oneCell' = true} {W : World} (base : Nat) (t ty e : TypeId) (z : Value) (bytes : Nat)
    (ht : P.underlying t = some (.slice e)) (hinfo : (P.info? e).map (fun i => (i.zero, i.size, i.bytes)) = some (some z, 1, bytes)) (hz : z.cells.size = 1)
    (g : Nat) (ys : List α) (A : Option Addr) (m c : Nat) (hR0 : (Kd.scalar enc h1).R e W base (fun _ => True) (.slice (some ⟨g, 0, none⟩) 0 0) [])
    (HR : (Kd.scalar enc h1).C W A m ys) (hbase : base ≤ W.heap.size) (hb0 : 0 < bytes) (hl : m * bytes ≤ 140737488355328) :
    ∃ v1 w1, (Builtin.append_ #[t, t] ty #[.slice (some ⟨g, 0, none⟩) 0 0, .slice A m c]).run P W = .ok v1 w1 ∧ (Kd.scalar enc h1).R e w1 base (fun _ => True) v1 ys ∧ Below W.heap.size W w1 := by
  obtain ⟨i0, hi, hzz⟩ := Option.map_eq_some_iff.1 hinfo
  simp only [Prod.mk.injEq] at hzz
  obtain ⟨hz0, hz1, hz2⟩ := hzz
  have hm : ys.length = m := HR.1
  have hlen : m ≤ 140737488355328 := Nat.le_trans (Nat.le_mul_of_pos_right _ hb0) hl
  rcases Nat.eq_zero_or_pos m with h0 | h0
  · subst h0
    obtain rfl : ys = [] := List.eq_nil_of_length_eq_zero hm
    refine ⟨.slice (some ⟨g, 0, none⟩) 0 0, W, ?_, hR0, Below.refl _ _⟩
    cases A <;> simp [Builtin.append_, run_underlying ht, sizeOf, typeInfo, hi, Builtin.lenOf, Builtin.firstCells, loadCells, loadCellsFrom, storeCells]
  · obtain ⟨ad, rfl, _⟩ := HR.2.2 h0
    obtain ⟨news, hnr, hnc⟩ := ReadsRow.inner_ HR
    have hnl : news.length = m * 1 := by rw [hnr.1, hm]; rfl
    obtain ⟨v1, w1, hrun, hown, hg⟩ := run_append_arg_grows (P := P) W t ty e i0 z 1 bytes ht hi hz0 hz1 hz2 hz (by decide) ⟨g, 0, none⟩ 0 0 [] rfl (fun j u h => by simp at h) ad m c news hnl hnc (by omega) (by simp only [maxLen]; omega) (by rw [Nat.zero_add]; exact hl)
    have hne : ∀ k, v1.ownBlock = some k → W.heap.size ≤ k := fun k hk => own_base hown k hk
    refine ⟨v1, w1, hrun, ⟨fun _ _ => trivial, news, ?_, ?_⟩, ⟨hg.os, hg.tape, hg.output, hg.size, fun k hk => hg.block k hk (by simp)⟩⟩
    · have h3 : w1.ownsRow W.heap.size e 1 v1 ys.length news := by
        have h4 := hown
        rw [List.nil_append, Nat.zero_add, ← hm] at h4
        exact h4
      obtain ⟨ha, hb⟩ := h3
      refine ⟨ha, ?_⟩
      rcases hb with hb | ⟨g', cap, cur, e1, e2, e3⟩
      · exact .inl hb
      · exact .inr ⟨g', cap, cur, e1, Nat.le_trans hbase e2, e3⟩
    · exact hnr
theorem append_fresh_step {enc : α → Value} {h1 : ∀ x, (enc x).oneCell' = true} {W : World} (base : Nat) (hw : Region.wanted o (yielded ops a.tmps) = true) (s x : Operand) (t e : TypeId) (z : Value) (bytes : Nat)
    (ho : o.op = .call { callee := .builtin .append, args := #[s, x], argTypes := #[t, t] })
    (ht : P.underlying t = some (.slice e)) (hinfo : (P.info? e).map (fun i => (i.zero, i.size, i.bytes)) = some (some z, 1, bytes)) (hz : z.cells.size = 1)
    (g : Nat) (ys : List α) (A : Option Addr) (m c : Nat) (hs : a.eval s = .slice (some ⟨g, 0, none⟩) 0 0) (hx : a.eval x = .slice A m c)
    (hR0 : (Kd.scalar enc h1).R e W base (fun _ => True) (.slice (some ⟨g, 0, none⟩) 0 0) [])
    (HR : (Kd.scalar enc h1).C W A m ys) (hbase : base ≤ W.heap.size) (hb0 : 0 < bytes) (hl : m * bytes ≤ 140737488355328)
    (h : ∀ v1 w1, (Kd.scalar enc h1).R e w1 base (fun _ => True) v1 ys → Below W.heap.size W w1 → Kc (a.put o.dst v1) w1) :
    if Region.wanted o (yielded ops a.tmps) = true then Oper.wp P o a W Kc Q else Kc (a.put o.dst undef) W := by
  obtain ⟨v1, w1, hr1, h2, hb⟩ := run_append_fresh (P := P) base t o.type e z bytes ht hinfo hz g ys A m c hR0 HR hbase hb0 hl
  rw [if_pos hw]
  unfold Oper.wp execOp
  simp only [ho, resolve, invoke, builtin, Sem.run_bind, Sem.run_pure, Result.andThen_ok, List.map_toArray, List.map_cons, List.map_nil, hs, hx, hr1]
  exact h v1 w1 h2 hb
/-- An empty row made: a literal without elements. -/
theorem empty_lit_step {enc : α → Value} {h1 : ∀ x, (enc x).oneCell' = true} {W : World} (base e : Nat) (hw : Region.wanted o (yielded ops a.tmps) = true) {N : Tmp} (_hd : o.dst = some N)
    (hrun : (execOp a.eval o).run P W = .ok (.value (.slice (some ⟨W.heap.size, 0, none⟩) 0 0)) (W.alloc (.cells #[] e))) (hbase : base ≤ W.heap.size)
    (h : ∀ g w1, (Kd.scalar enc h1).R e w1 base (fun _ => True) (.slice (some ⟨g, 0, none⟩) 0 0) [] → Below W.heap.size W w1 → Kc (a.put o.dst (.slice (some ⟨g, 0, none⟩) 0 0)) w1) :
    if Region.wanted o (yielded ops a.tmps) = true then Oper.wp P o a W Kc Q else Kc (a.put o.dst undef) W := by
  refine event_step hw hrun (h _ _ ⟨fun _ _ => trivial, [], ?_, Reps.none _ _⟩ (below_alloc (Below.refl _ _) _))
  exact World.ownsRow_lit (base := base) (e := e) (size := 1) W #[] 0 hbase (by simp [maxLen]) (by simp)
end
theorem R_empty {α : Type} {enc : α → Value} {h1 : ∀ x, (enc x).oneCell' = true} {W : World} {g e base : Nat} (h : W.heap[g]? = some (.cells #[] e (0, 0))) (hb : base ≤ g) : (Kd.scalar enc h1).R e W base (fun _ => True) (.slice (some ⟨g, 0, none⟩) 0 0) [] := by
  refine ⟨fun _ _ => trivial, [], ⟨by simp, .inr ⟨g, 0, #[], rfl, hb, h, by simp, by simp [maxLen], by simp, by simp⟩⟩, Reps.none _ _⟩
theorem nth_alloc {w : World} {o : Obj} {g : Nat} (h : g = w.heap.size) : (w.alloc o).heap[g]? = some o := by subst h; exact blk_new _ _
theorem blk_below_ {w w1 : World} {g : Nat} {o : Obj} (h : w.heap[g]? = some o) (hb : Below w.heap.size w w1) : w1.heap[g]? = some o := (hb.block g (blk_lt h)).trans h
theorem put5 {W : World} {g t : Nat} {x0 x1 x2 x3 x4 : Value} (h : W.heap[g]? = some (.cells #[x0, x1, x2, x3, x4] t (0, 0))) (u0 u1 u2 u3 u4 : Value) :
    (((((W.setCell ⟨g, 0, none⟩ u0).setCell ⟨g, 1, none⟩ u1).setCell ⟨g, 2, none⟩ u2).setCell ⟨g, 3, none⟩ u3).setCell ⟨g, 4, none⟩ u4).heap[g]? = some (.cells #[u0, u1, u2, u3, u4] t (0, 0)) := by
  have h0 := blk_set h 0 u0
  have h1 := blk_set h0 1 u1
  have h2 := blk_set h1 2 u2
  have h3 := blk_set h2 3 u3
  have h4 := blk_set h3 4 u4
  simpa using h4
theorem below_set_ {B : Nat} {w W : World} (h : Below B w W) {p : Addr} (hp : B ≤ p.block) (u : Value) : Below B w (W.setCell p u) := h.setCell hp u
theorem below_put5 {B : Nat} {w W : World} (h : Below B w W) {g : Nat} (hg : B ≤ g) (u0 u1 u2 u3 u4 : Value) : Below B w (((((W.setCell ⟨g, 0, none⟩ u0).setCell ⟨g, 1, none⟩ u1).setCell ⟨g, 2, none⟩ u2).setCell ⟨g, 3, none⟩ u3).setCell ⟨g, 4, none⟩ u4) :=
  ((((h.setCell (p := ⟨g, 0, none⟩) hg u0).setCell (p := ⟨g, 1, none⟩) hg u1).setCell (p := ⟨g, 2, none⟩) hg u2).setCell (p := ⟨g, 3, none⟩) hg u3).setCell (p := ⟨g, 4, none⟩) hg u4
theorem R_put5 {α : Type} {d : Kd α} {e base : Nat} {W : World} {v : Value} {xs : List α} (h : d.R e W base (fun _ => True) v xs) {g t : Nat} {x0 x1 x2 x3 x4 : Value} (hb : W.heap[g]? = some (.cells #[x0, x1, x2, x3, x4] t (0, 0))) (ht : ∀ q, q ∈ e :: d.E → q ≠ t) (u0 u1 u2 u3 u4 : Value) :
    d.R e (((((W.setCell ⟨g, 0, none⟩ u0).setCell ⟨g, 1, none⟩ u1).setCell ⟨g, 2, none⟩ u2).setCell ⟨g, 3, none⟩ u3).setCell ⟨g, 4, none⟩ u4) base (fun _ => True) v xs := by
  have h0 := blk_set hb 0 u0
  have h1 := blk_set h0 1 u1
  have h2 := blk_set h1 2 u2
  have h3 := blk_set h2 3 u3
  exact Kd.R_set (Kd.R_set (Kd.R_set (Kd.R_set (Kd.R_set h hb ht 0 u0) h0 ht 1 u1) h1 ht 2 u2) h2 ht 3 u3) h3 ht 4 u4
theorem facts5 {W : World} {g t : Nat} {x0 x1 x2 x3 x4 : Value} (h : W.heap[g]? = some (.cells #[x0, x1, x2, x3, x4] t (0, 0))) :
    (W.cell? ⟨g, 0, none⟩ = some x0 ∧ W.cell? ⟨g, 1, none⟩ = some x1 ∧ W.cell? ⟨g, 2, none⟩ = some x2 ∧ W.cell? ⟨g, 3, none⟩ = some x3 ∧ W.cell? ⟨g, 4, none⟩ = some x4) ∧
    (W.frozen? ⟨g, 0, none⟩ = false ∧ W.frozen? ⟨g, 1, none⟩ = false ∧ W.frozen? ⟨g, 2, none⟩ = false ∧ W.frozen? ⟨g, 3, none⟩ = false ∧ W.frozen? ⟨g, 4, none⟩ = false) :=
  ⟨⟨(blk_cell h 0).trans rfl, (blk_cell h 1).trans rfl, (blk_cell h 2).trans rfl, (blk_cell h 3).trans rfl, (blk_cell h 4).trans rfl⟩, blk_frozen h 0, blk_frozen h 1, blk_frozen h 2, blk_frozen h 3, blk_frozen h 4⟩
theorem far5 {W : World} {g g' : Nat} {o : Obj} (h : W.heap[g]? = some o) (hne : g ≠ g') (u0 u1 u2 u3 u4 : Value) :
    (((((W.setCell ⟨g', 0, none⟩ u0).setCell ⟨g', 1, none⟩ u1).setCell ⟨g', 2, none⟩ u2).setCell ⟨g', 3, none⟩ u3).setCell ⟨g', 4, none⟩ u4).heap[g]? = some o := by
  rw [Below.heap_setCell _ _ _ _ hne, Below.heap_setCell _ _ _ _ hne, Below.heap_setCell _ _ _ _ hne, Below.heap_setCell _ _ _ _ hne, Below.heap_setCell _ _ _ _ hne]
  exact h
theorem far1 {W : World} {g : Nat} {o : Obj} {p : Addr} (h : W.heap[g]? = some o) (hne : g ≠ p.block) (u : Value) : (W.setCell p u).heap[g]? = some o := (Below.heap_setCell _ _ _ _ hne).trans h
theorem R_put55 {α : Type} {d : Kd α} {e base : Nat} {W : World} {v : Value} {xs : List α} (h : d.R e W base (fun _ => True) v xs) {g t g' t' : Nat} {x0 x1 x2 x3 x4 y0 y1 y2 y3 y4 : Value} (hb : W.heap[g]? = some (.cells #[x0, x1, x2, x3, x4] t (0, 0))) (hb' : W.heap[g']? = some (.cells #[y0, y1, y2, y3, y4] t' (0, 0)))
    (hne : g' ≠ g) (ht : ∀ q, q ∈ e :: d.E → q ≠ t) (ht' : ∀ q, q ∈ e :: d.E → q ≠ t') (u0 u1 u2 u3 u4 v0 v1 v2 v3 v4 : Value) :
    d.R e ((((((((((W.setCell ⟨g, 0, none⟩ u0).setCell ⟨g, 1, none⟩ u1).setCell ⟨g, 2, none⟩ u2).setCell ⟨g, 3, none⟩ u3).setCell ⟨g, 4, none⟩ u4).setCell ⟨g', 0, none⟩ v0).setCell ⟨g', 1, none⟩ v1).setCell ⟨g', 2, none⟩ v2).setCell ⟨g', 3, none⟩ v3).setCell ⟨g', 4, none⟩ v4) base (fun _ => True) v xs :=
  R_put5 (R_put5 h hb ht u0 u1 u2 u3 u4) (far5 hb' hne u0 u1 u2 u3 u4) ht' v0 v1 v2 v3 v4
end Go.Proofs.Ytnkpmogpmcggiaa
