/- The table's cells, one by one: read and stored into. -/
import Derived.Test.YtnkpmogpmcggiaaLTab
set_option linter.unusedVariables false
set_option linter.unusedSimpArgs false
namespace Go.Proofs.Ytnkpmogpmcggiaa
open Go.RowKit Go.Proofs.YtnkpmogpmcggiaaW.PrintWords Go.Proofs.YtnkpmogpmcggiaaW.PrintLast Go.Proofs.YtnkpmogpmcggiaaW.PrintMore

/-- What is no row of numbers stays. -/
def Not3 (W W' : World) : Prop := W.heap.size ≤ W'.heap.size ∧ ∀ (k : Nat) (cs : Array Value) (ty : Nat) (fr : Nat × Nat), W.heap[k]? = some (Obj.cells cs ty fr) → ty ≠ 3 → W'.heap[k]? = some (Obj.cells cs ty fr)
theorem Not3.refl (W : World) : Not3 W W := ⟨Nat.le_refl _, fun _ _ _ _ h _ => h⟩
theorem Not3.trans {a b c : World} (h : Not3 a b) (k : Not3 b c) : Not3 a c := ⟨Nat.le_trans h.1 k.1, fun i cs ty fr h1 h2 => k.2 i cs ty fr (h.2 i cs ty fr h1 h2) h2⟩
theorem Not3.of_below {W W' : World} (h : Below W.heap.size W W') : Not3 W W' := ⟨h.size, fun k cs ty fr h1 _ => (h.block k (Array.getElem?_eq_some_iff.1 h1).1).trans h1⟩
theorem Not3.set_ {W : World} {g j : Nat} {cells : Array Value} (h : W.heap[g]? = some (.cells cells 3 (0, 0))) (u : Value) : Not3 W (W.setCell ⟨g, j, none⟩ u) := by
  refine ⟨by simp [World.setCell], fun k cs ty fr h1 h2 => (Below.heap_setCell _ _ _ _ (fun e => ?_)).trans h1⟩
  subst e
  have := h.symm.trans h1
  simp only [Option.some.injEq, Obj.cells.injEq] at this
  exact h2 this.2.1.symm

theorem tab_cells {t : Tb} {w0 W : World} {g : Nat} {v : Value} {N : Tab3} (h : TabAt t w0 W g v N) {L n : Nat} (hD : Dim L n N) (a i j : Nat) (ha : a < n) (hi : i ≤ L) (hj : j ≤ L) :
    ∃ gv cv gm cm gr cr, v = .slice (some ⟨gv, 0, none⟩) n cv ∧ W.cell? ⟨gv, a, none⟩ = some (.slice (some ⟨gm, 0, none⟩) (L + 1) cm) ∧ W.cell? ⟨gm, i, none⟩ = some (.slice (some ⟨gr, 0, none⟩) (L + 1) cr) ∧
      W.cell? ⟨gr, j, none⟩ = some (.int .i64 (node N a i j)) ∧ W.frozen? ⟨gr, j, none⟩ = false ∧ (∃ cells, W.heap[gr]? = some (.cells cells 3 (0, 0))) ∧
      ∀ x : Int, TabAt t w0 (W.setCell ⟨gr, j, none⟩ (.int .i64 x)) g v (setNode N a i j x) := by
  have e1 := hD.len
  have e2 := hD.mid a ha
  have e3 := hD.row a ha i hi
  obtain ⟨gv, cv, hv, _⟩ := Kd.S_form h.own (by omega)
  rw [e1] at hv
  have hown := h.own
  rw [hv] at hown
  obtain ⟨oki, c, hcl, ⟨vm, rfl, hM⟩, hcc, hoki, hbk⟩ := Kd.S_borrow hown [] (a : Int) (by omega) (by omega)
  rw [Int.toNat_natCast] at hM hcc hbk
  obtain ⟨gm, cm, rfl, _⟩ := Kd.S_form hM (by omega)
  have x1 := hcc 0 _ rfl
  rw [e2] at hM x1
  rw [show a * midK.sz + 0 = a from by show a * 1 + 0 = a; omega, add_plain] at x1
  obtain ⟨oki2, c2, hcl2, ⟨vr, rfl, hR⟩, hcc2, hoki2, hbk2⟩ := Kd.S_borrow hM [] (i : Int) (by omega) (by omega)
  rw [Int.toNat_natCast] at hR hcc2 hbk2
  obtain ⟨gr, cr, rfl, _⟩ := Kd.R_form hR (by omega)
  have x2 := hcc2 0 _ rfl
  rw [e3] at hR x2
  rw [show i * rowK.sz + 0 = i from by show i * 1 + 0 = i; omega, add_plain] at x2
  obtain ⟨x3, x4⟩ := Kd.R_celln (0 : Int) hR (j : Int) (by omega) (by omega)
  rw [Int.toNat_natCast] at x3 x4
  have e4 : rdOf (0 : Int) ((N.getD a []).getD i []) (j : Int) = node N a i j := by unfold rdOf node; rw [Int.toNat_natCast]
  rw [e4] at x3
  obtain ⟨cells, hcells⟩ := Kd.R_typed hR gr rfl
  refine ⟨gv, cv, gm, cm, gr, cr, hv, x1, x2, x3, x4, ⟨cells, hcells⟩, fun x => ?_⟩
  obtain ⟨hR2, hg⟩ := Kd.R_putg hR (j : Int) x
  rw [Int.toNat_natCast] at hR2 hg
  have hin := hbk2 hg (fun k hk => by injection hk with hk; subst hk; exact hR.1 _ rfl) ⟨_, by rw [e3], hR2⟩
  rw [← e2] at hin
  have hout := hbk hg (fun k hk => by injection hk with hk; subst hk; exact (hoki2 _ (hR.1 _ rfl)).1) ⟨_, rfl, hin⟩
  have hne : g ≠ gr := fun e => by
    subst e
    have := h.blk.symm.trans hcells
    simp at this
  refine ⟨blk_far h.blk hne _, h.ge, by rw [hv]; exact hout, ?_, h.came⟩
  exact below_set h.below (Kd.R_base hR gr rfl)
/-- Where the ways through a region meet again: one frame and one world for all of them, but for one letter. -/
def Meets {α : Type} (T : α → Prop) (F : α → Act) (G : α → World) : Exit → Act → World → Prop
  | .normal, a, w => ∃ x, T x ∧ a = F x ∧ w = G x
  | _, _, _ => False
theorem wp_meets {P : Program} {c : Code} {Q : Exit → Act → World → Prop} {a : Act} {w : World} {α : Type} (T : α → Prop) {F : α → Act} {G : α → World} (h : c.wp P (Meets T F G) a w)
    (hk : ∀ x, T x → Q .normal (F x) (G x)) : c.wp P Q a w :=
  Code.wp_mono (fun e a' w' hm => by
    cases e <;> first
      | (obtain ⟨x, hx, rfl, rfl⟩ := hm; exact hk x hx)
      | exact (hm : False).elim) h
def Meet0 (a0 : Act) (w0 : World) : Exit → Act → World → Prop
  | .normal, a, w => a = a0 ∧ w = w0
  | _, _, _ => False
theorem wp_meet0 {P : Program} {c : Code} {Q : Exit → Act → World → Prop} {a : Act} {w : World} {a0 : Act} {w0 : World} (h : c.wp P (Meet0 a0 w0) a w) (hk : Q .normal a0 w0) : c.wp P Q a w :=
  Code.wp_mono (fun e a' w' hm => by
    cases e <;> first
      | (obtain ⟨rfl, rfl⟩ := hm; exact hk)
      | exact (hm : False).elim) h
end Go.Proofs.Ytnkpmogpmcggiaa
