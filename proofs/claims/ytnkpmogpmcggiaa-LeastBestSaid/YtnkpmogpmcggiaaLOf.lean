/- The table of least nodes: reading it. Laid by a program over the words of the print. -/
import Derived.Test.YtnkpmogpmcggiaaLKinds
namespace Go.Proofs.Ytnkpmogpmcggiaa
open Go.RowKit Go.Proofs.YtnkpmogpmcggiaaW.PrintWords Go.Proofs.YtnkpmogpmcggiaaW.PrintLast Go.Proofs.YtnkpmogpmcggiaaW.PrintMore
attribute [local go_sem] max2_int min2_int max_two min_two max_three min_three max_four min_four   -- for this text's walks alone
set_option linter.unusedVariables false
set_option linter.unusedSimpArgs false

/-- The table at block g of W; what its slices lead to is read by w0. -/
def IsS71 (w0 W : World) (g : Nat) (f0 : Int) (f1 : Int) (f2 : List ByteArray) (f3 : List ByteArray) (f4 : List (S39)) (f5 : List Int) (f6 : List (List (List Int))) : Prop := ∃ A2 c2, ∃ A3 c3, ∃ A4 c4, ∃ A5 c5, ∃ A6 c6, W.heap[g]? = some (.cells #[.int .i64 f0, .int .i64 f1, .slice A2 f2.length c2, .slice A3 f3.length c3, .slice A4 f4.length c4, .slice A5 f5.length c5, .slice A6 f6.length c6] 71 (0, 0)) ∧ 0 ≤ g ∧ Kd.C Kd.string w0 A2 f2.length f2 ∧ Kd.C Kd.string w0 A3 f3.length f3 ∧ Kd.C k39 w0 A4 f4.length f4 ∧ Kd.C (Kd.int .i64) w0 A5 f5.length f5 ∧ Kd.C (Kd.slice 34 (Kd.slice 3 (Kd.int .i64))) w0 A6 f6.length f6
theorem IsS71.grown {w0 W : World} {g : Nat} {f0 : Int} {f1 : Int} {f2 : List ByteArray} {f3 : List ByteArray} {f4 : List (S39)} {f5 : List Int} {f6 : List (List (List Int))} {W1 : World} {row : Option Nat} (h : IsS71 w0 W g f0 f1 f2 f3 f4 f5 f6) (hw : W.grownBy W1 row) (hne : some g ≠ row) : IsS71 w0 W1 g f0 f1 f2 f3 f4 f5 f6 := by
  obtain ⟨A2, c2, A3, c3, A4, c4, A5, c5, A6, c6, hb, hg, hr2, hr3, hr4, hr5, hr6⟩ := h
  exact ⟨A2, c2, A3, c3, A4, c4, A5, c5, A6, c6, blk_grown hb hw hne, hg, hr2, hr3, hr4, hr5, hr6⟩
theorem IsS71.own_neN {w0 W : World} {g : Nat} {f0 : Int} {f1 : Int} {f2 : List ByteArray} {f3 : List ByteArray} {f4 : List (S39)} {f5 : List Int} {f6 : List (List (List Int))} {α : Type} {d : Kd α} {e : Nat} {base : Nat} {ok : Nat → Prop} {v : Value} {xs : List α} (h : IsS71 w0 W g f0 f1 f2 f3 f4 f5 f6) (ho : Kd.N d e W base ok v xs) (ht : e ≠ 71) : some g ≠ v.ownBlock := by
  obtain ⟨A2, c2, A3, c3, A4, c4, A5, c5, A6, c6, hb, hg, hr2, hr3, hr4, hr5, hr6⟩ := h
  exact Kd.N_ne ho hb ht
theorem IsS71.fresh {w0 W : World} {g : Nat} {f0 : Int} {f1 : Int} {f2 : List ByteArray} {f3 : List ByteArray} {f4 : List (S39)} {f5 : List Int} {f6 : List (List (List Int))} (h : IsS71 w0 W g f0 f1 f2 f3 f4 f5 f6) : ∀ k, W.heap.size ≤ k → k ≠ g := by
  obtain ⟨A2, c2, A3, c3, A4, c4, A5, c5, A6, c6, hb, hg, hr2, hr3, hr4, hr5, hr6⟩ := h
  exact Kd.freshB hb
theorem IsS71.kept {w0 W : World} {g : Nat} {f0 : Int} {f1 : Int} {f2 : List ByteArray} {f3 : List ByteArray} {f4 : List (S39)} {f5 : List Int} {f6 : List (List (List Int))} {W1 : World} {S : Nat → Prop} (h : IsS71 w0 W g f0 f1 f2 f3 f4 f5 f6) (hk : Kept W W1 S) (hne : ¬ S g) : IsS71 w0 W1 g f0 f1 f2 f3 f4 f5 f6 := by
  obtain ⟨A2, c2, A3, c3, A4, c4, A5, c5, A6, c6, hb, hg, hr2, hr3, hr4, hr5, hr6⟩ := h
  exact ⟨A2, c2, A3, c3, A4, c4, A5, c5, A6, c6, blk_kept hb hk hne, hg, hr2, hr3, hr4, hr5, hr6⟩
theorem IsS71.below {w0 W : World} {g : Nat} {f0 : Int} {f1 : Int} {f2 : List ByteArray} {f3 : List ByteArray} {f4 : List (S39)} {f5 : List Int} {f6 : List (List (List Int))} {W1 : World} (h : IsS71 w0 W g f0 f1 f2 f3 f4 f5 f6) (hw : Below W.heap.size W W1) : IsS71 w0 W1 g f0 f1 f2 f3 f4 f5 f6 := h.grown (grown_of_below hw none) (by simp)
theorem IsS71.alloc {w0 W : World} {g : Nat} {f0 : Int} {f1 : Int} {f2 : List ByteArray} {f3 : List ByteArray} {f4 : List (S39)} {f5 : List Int} {f6 : List (List (List Int))} (h : IsS71 w0 W g f0 f1 f2 f3 f4 f5 f6) (o : Obj) : IsS71 w0 (W.alloc o) g f0 f1 f2 f3 f4 f5 f6 := h.below (below_alloc (Below.refl _ _) o)
theorem IsS71.drewN {w0 W : World} {g : Nat} {f0 : Int} {f1 : Int} {f2 : List ByteArray} {f3 : List ByteArray} {f4 : List (S39)} {f5 : List Int} {f6 : List (List (List Int))} (h : IsS71 w0 W g f0 f1 f2 f3 f4 f5 f6) (m : Nat) : IsS71 w0 (W.drewN m) g f0 f1 f2 f3 f4 f5 f6 := h
theorem IsS71.drew {w0 W : World} {g : Nat} {f0 : Int} {f1 : Int} {f2 : List ByteArray} {f3 : List ByteArray} {f4 : List (S39)} {f5 : List Int} {f6 : List (List (List Int))} (h : IsS71 w0 W g f0 f1 f2 f3 f4 f5 f6) : IsS71 w0 W.drew g f0 f1 f2 f3 f4 f5 f6 := h
theorem IsS71.at_ {w0 W : World} {g : Nat} {f0 : Int} {f1 : Int} {f2 : List ByteArray} {f3 : List ByteArray} {f4 : List (S39)} {f5 : List Int} {f6 : List (List (List Int))} {w' : World} {m : Nat} (hq : W.drewN m = w') (h : IsS71 w0 W g f0 f1 f2 f3 f4 f5 f6) : IsS71 w0 w' g f0 f1 f2 f3 f4 f5 f6 := by subst hq; exact IsS71.drewN h m
theorem IsS71.apart {w0 W : World} {g : Nat} {f0 : Int} {f1 : Int} {f2 : List ByteArray} {f3 : List ByteArray} {f4 : List (S39)} {f5 : List Int} {f6 : List (List (List Int))} {α : Type} {d : Kd α} {e : Nat} {base : Nat} {ok : Nat → Prop} {v : Value} {xs : List α} (h : IsS71 w0 W g f0 f1 f2 f3 f4 f5 f6) (ho : d.R e W base ok v xs) (ht : ∀ q, q ∈ e :: d.E → q ≠ 71) : d.R e W base (fun k => ok k ∧ k ≠ g) v xs := by
  obtain ⟨A2, c2, A3, c3, A4, c4, A5, c5, A6, c6, hb, hg, hr2, hr3, hr4, hr5, hr6⟩ := h
  exact Kd.R_types ho hb ht
theorem IsS71.own_ne {w0 W : World} {g : Nat} {f0 : Int} {f1 : Int} {f2 : List ByteArray} {f3 : List ByteArray} {f4 : List (S39)} {f5 : List Int} {f6 : List (List (List Int))} {α : Type} {d : Kd α} {e : Nat} {base : Nat} {ok : Nat → Prop} {v : Value} {xs : List α} (h : IsS71 w0 W g f0 f1 f2 f3 f4 f5 f6) (ho : d.R e W base ok v xs) (ht : e ≠ 71) : some g ≠ v.ownBlock := by
  obtain ⟨A2, c2, A3, c3, A4, c4, A5, c5, A6, c6, hb, hg, hr2, hr3, hr4, hr5, hr6⟩ := h
  exact Kd.R_ne ho hb ht
theorem IsS71.apartQ {w0 W : World} {g : Nat} {f0 : Int} {f1 : Int} {f2 : List ByteArray} {f3 : List ByteArray} {f4 : List (S39)} {f5 : List Int} {f6 : List (List (List Int))} {α : Type} {d : Kd α} {e : Nat} {base : Nat} {ok : Nat → Prop} {v : Value} {xs : List α} (h : IsS71 w0 W g f0 f1 f2 f3 f4 f5 f6) (ho : d.Q e W base ok v xs) (ht : ∀ q, q ∈ e :: d.E → q ≠ 71) : d.Q e W base (fun k => ok k ∧ k ≠ g) v xs := by
  obtain ⟨A2, c2, A3, c3, A4, c4, A5, c5, A6, c6, hb, hg, hr2, hr3, hr4, hr5, hr6⟩ := h
  exact Kd.Q_types ho hb ht
theorem IsS71.own_neQ {w0 W : World} {g : Nat} {f0 : Int} {f1 : Int} {f2 : List ByteArray} {f3 : List ByteArray} {f4 : List (S39)} {f5 : List Int} {f6 : List (List (List Int))} {α : Type} {d : Kd α} {e : Nat} {base : Nat} {ok : Nat → Prop} {v : Value} {xs : List α} (h : IsS71 w0 W g f0 f1 f2 f3 f4 f5 f6) (ho : d.Q e W base ok v xs) (ht : e ≠ 71) : some g ≠ v.ownBlock := by
  obtain ⟨A2, c2, A3, c3, A4, c4, A5, c5, A6, c6, hb, hg, hr2, hr3, hr4, hr5, hr6⟩ := h
  exact Kd.Q_ne ho hb ht
theorem IsS71.apartS {w0 W : World} {g : Nat} {f0 : Int} {f1 : Int} {f2 : List ByteArray} {f3 : List ByteArray} {f4 : List (S39)} {f5 : List Int} {f6 : List (List (List Int))} {α : Type} {d : Kd α} {e : Nat} {base : Nat} {ok : Nat → Prop} {v : Value} {xs : List α} (h : IsS71 w0 W g f0 f1 f2 f3 f4 f5 f6) (ho : d.S e W base ok v xs) (ht : ∀ q, q ∈ e :: d.E → q ≠ 71) : d.S e W base (fun k => ok k ∧ k ≠ g) v xs := by
  obtain ⟨A2, c2, A3, c3, A4, c4, A5, c5, A6, c6, hb, hg, hr2, hr3, hr4, hr5, hr6⟩ := h
  exact Kd.S_types ho hb ht
theorem IsS71.own_neS {w0 W : World} {g : Nat} {f0 : Int} {f1 : Int} {f2 : List ByteArray} {f3 : List ByteArray} {f4 : List (S39)} {f5 : List Int} {f6 : List (List (List Int))} {α : Type} {d : Kd α} {e : Nat} {base : Nat} {ok : Nat → Prop} {v : Value} {xs : List α} (h : IsS71 w0 W g f0 f1 f2 f3 f4 f5 f6) (ho : d.S e W base ok v xs) (ht : e ≠ 71) : some g ≠ v.ownBlock := by
  obtain ⟨A2, c2, A3, c3, A4, c4, A5, c5, A6, c6, hb, hg, hr2, hr3, hr4, hr5, hr6⟩ := h
  exact Kd.S_ne ho hb ht
theorem IsS71.lt {w0 W : World} {g : Nat} {f0 : Int} {f1 : Int} {f2 : List ByteArray} {f3 : List ByteArray} {f4 : List (S39)} {f5 : List Int} {f6 : List (List (List Int))} (h : IsS71 w0 W g f0 f1 f2 f3 f4 f5 f6) : g < W.heap.size := by
  obtain ⟨A2, c2, A3, c3, A4, c4, A5, c5, A6, c6, hb, hg, hr2, hr3, hr4, hr5, hr6⟩ := h
  exact blk_lt hb
theorem IsS71.ne_blk {w0 W : World} {g : Nat} {f0 : Int} {f1 : Int} {f2 : List ByteArray} {f3 : List ByteArray} {f4 : List (S39)} {f5 : List Int} {f6 : List (List (List Int))} {a : Nat} {cs : Array Value} {t : TypeId} {fr : Nat × Nat} (h : IsS71 w0 W g f0 f1 f2 f3 f4 f5 f6) (hb2 : W.heap[a]? = some (.cells cs t fr)) (ht : t ≠ 71) : g ≠ a := by
  obtain ⟨A2, c2, A3, c3, A4, c4, A5, c5, A6, c6, hb, hg, hr2, hr3, hr4, hr5, hr6⟩ := h
  rintro rfl
  rw [hb] at hb2
  injection hb2 with hb2
  injection hb2 with _ ht2
  exact ht ht2.symm
theorem IsS71.far {w0 W : World} {g : Nat} {f0 : Int} {f1 : Int} {f2 : List ByteArray} {f3 : List ByteArray} {f4 : List (S39)} {f5 : List Int} {f6 : List (List (List Int))} {p : Addr} (h : IsS71 w0 W g f0 f1 f2 f3 f4 f5 f6) (hne : g ≠ p.block) (u : Value) : IsS71 w0 (W.setCell p u) g f0 f1 f2 f3 f4 f5 f6 := by
  obtain ⟨A2, c2, A3, c3, A4, c4, A5, c5, A6, c6, hb, hg, hr2, hr3, hr4, hr5, hr6⟩ := h
  exact ⟨A2, c2, A3, c3, A4, c4, A5, c5, A6, c6, blk_far hb hne u, hg, hr2, hr3, hr4, hr5, hr6⟩
theorem cellS71_0 {W : World} {g : Nat} {A2 : Option Addr} {c2 : Nat} {A3 : Option Addr} {c3 : Nat} {A4 : Option Addr} {c4 : Nat} {A5 : Option Addr} {c5 : Nat} {A6 : Option Addr} {c6 : Nat} {f0 : Int} {f1 : Int} {f2 : List ByteArray} {f3 : List ByteArray} {f4 : List (S39)} {f5 : List Int} {f6 : List (List (List Int))} (h : W.heap[g]? = some (.cells #[.int .i64 f0, .int .i64 f1, .slice A2 f2.length c2, .slice A3 f3.length c3, .slice A4 f4.length c4, .slice A5 f5.length c5, .slice A6 f6.length c6] 71 (0, 0))) : W.cell? ⟨g, 0, none⟩ = some (.int .i64 f0) := (blk_cell h 0).trans rfl
theorem IsS71.set_0 {w0 W : World} {g : Nat} {f0 : Int} {f1 : Int} {f2 : List ByteArray} {f3 : List ByteArray} {f4 : List (S39)} {f5 : List Int} {f6 : List (List (List Int))} (h : IsS71 w0 W g f0 f1 f2 f3 f4 f5 f6) (x : Int) : IsS71 w0 (W.setCell ⟨g, 0, none⟩ (.int .i64 x)) g x f1 f2 f3 f4 f5 f6 := by
  obtain ⟨A2, c2, A3, c3, A4, c4, A5, c5, A6, c6, hb, hg, hr2, hr3, hr4, hr5, hr6⟩ := h
  exact ⟨A2, c2, A3, c3, A4, c4, A5, c5, A6, c6, by simpa using blk_set hb 0 (.int .i64 x), hg, hr2, hr3, hr4, hr5, hr6⟩
theorem cellS71_1 {W : World} {g : Nat} {A2 : Option Addr} {c2 : Nat} {A3 : Option Addr} {c3 : Nat} {A4 : Option Addr} {c4 : Nat} {A5 : Option Addr} {c5 : Nat} {A6 : Option Addr} {c6 : Nat} {f0 : Int} {f1 : Int} {f2 : List ByteArray} {f3 : List ByteArray} {f4 : List (S39)} {f5 : List Int} {f6 : List (List (List Int))} (h : W.heap[g]? = some (.cells #[.int .i64 f0, .int .i64 f1, .slice A2 f2.length c2, .slice A3 f3.length c3, .slice A4 f4.length c4, .slice A5 f5.length c5, .slice A6 f6.length c6] 71 (0, 0))) : W.cell? ⟨g, 1, none⟩ = some (.int .i64 f1) := (blk_cell h 1).trans rfl
theorem IsS71.set_1 {w0 W : World} {g : Nat} {f0 : Int} {f1 : Int} {f2 : List ByteArray} {f3 : List ByteArray} {f4 : List (S39)} {f5 : List Int} {f6 : List (List (List Int))} (h : IsS71 w0 W g f0 f1 f2 f3 f4 f5 f6) (x : Int) : IsS71 w0 (W.setCell ⟨g, 1, none⟩ (.int .i64 x)) g f0 x f2 f3 f4 f5 f6 := by
  obtain ⟨A2, c2, A3, c3, A4, c4, A5, c5, A6, c6, hb, hg, hr2, hr3, hr4, hr5, hr6⟩ := h
  exact ⟨A2, c2, A3, c3, A4, c4, A5, c5, A6, c6, by simpa using blk_set hb 1 (.int .i64 x), hg, hr2, hr3, hr4, hr5, hr6⟩
theorem cellS71_2 {W : World} {g : Nat} {A2 : Option Addr} {c2 : Nat} {A3 : Option Addr} {c3 : Nat} {A4 : Option Addr} {c4 : Nat} {A5 : Option Addr} {c5 : Nat} {A6 : Option Addr} {c6 : Nat} {f0 : Int} {f1 : Int} {f2 : List ByteArray} {f3 : List ByteArray} {f4 : List (S39)} {f5 : List Int} {f6 : List (List (List Int))} (h : W.heap[g]? = some (.cells #[.int .i64 f0, .int .i64 f1, .slice A2 f2.length c2, .slice A3 f3.length c3, .slice A4 f4.length c4, .slice A5 f5.length c5, .slice A6 f6.length c6] 71 (0, 0))) : W.cell? ⟨g, 2, none⟩ = some (.slice A2 f2.length c2) := (blk_cell h 2).trans rfl
theorem cellS71_3 {W : World} {g : Nat} {A2 : Option Addr} {c2 : Nat} {A3 : Option Addr} {c3 : Nat} {A4 : Option Addr} {c4 : Nat} {A5 : Option Addr} {c5 : Nat} {A6 : Option Addr} {c6 : Nat} {f0 : Int} {f1 : Int} {f2 : List ByteArray} {f3 : List ByteArray} {f4 : List (S39)} {f5 : List Int} {f6 : List (List (List Int))} (h : W.heap[g]? = some (.cells #[.int .i64 f0, .int .i64 f1, .slice A2 f2.length c2, .slice A3 f3.length c3, .slice A4 f4.length c4, .slice A5 f5.length c5, .slice A6 f6.length c6] 71 (0, 0))) : W.cell? ⟨g, 3, none⟩ = some (.slice A3 f3.length c3) := (blk_cell h 3).trans rfl
theorem cellS71_4 {W : World} {g : Nat} {A2 : Option Addr} {c2 : Nat} {A3 : Option Addr} {c3 : Nat} {A4 : Option Addr} {c4 : Nat} {A5 : Option Addr} {c5 : Nat} {A6 : Option Addr} {c6 : Nat} {f0 : Int} {f1 : Int} {f2 : List ByteArray} {f3 : List ByteArray} {f4 : List (S39)} {f5 : List Int} {f6 : List (List (List Int))} (h : W.heap[g]? = some (.cells #[.int .i64 f0, .int .i64 f1, .slice A2 f2.length c2, .slice A3 f3.length c3, .slice A4 f4.length c4, .slice A5 f5.length c5, .slice A6 f6.length c6] 71 (0, 0))) : W.cell? ⟨g, 4, none⟩ = some (.slice A4 f4.length c4) := (blk_cell h 4).trans rfl
theorem cellS71_5 {W : World} {g : Nat} {A2 : Option Addr} {c2 : Nat} {A3 : Option Addr} {c3 : Nat} {A4 : Option Addr} {c4 : Nat} {A5 : Option Addr} {c5 : Nat} {A6 : Option Addr} {c6 : Nat} {f0 : Int} {f1 : Int} {f2 : List ByteArray} {f3 : List ByteArray} {f4 : List (S39)} {f5 : List Int} {f6 : List (List (List Int))} (h : W.heap[g]? = some (.cells #[.int .i64 f0, .int .i64 f1, .slice A2 f2.length c2, .slice A3 f3.length c3, .slice A4 f4.length c4, .slice A5 f5.length c5, .slice A6 f6.length c6] 71 (0, 0))) : W.cell? ⟨g, 5, none⟩ = some (.slice A5 f5.length c5) := (blk_cell h 5).trans rfl
theorem cellS71_6 {W : World} {g : Nat} {A2 : Option Addr} {c2 : Nat} {A3 : Option Addr} {c3 : Nat} {A4 : Option Addr} {c4 : Nat} {A5 : Option Addr} {c5 : Nat} {A6 : Option Addr} {c6 : Nat} {f0 : Int} {f1 : Int} {f2 : List ByteArray} {f3 : List ByteArray} {f4 : List (S39)} {f5 : List Int} {f6 : List (List (List Int))} (h : W.heap[g]? = some (.cells #[.int .i64 f0, .int .i64 f1, .slice A2 f2.length c2, .slice A3 f3.length c3, .slice A4 f4.length c4, .slice A5 f5.length c5, .slice A6 f6.length c6] 71 (0, 0))) : W.cell? ⟨g, 6, none⟩ = some (.slice A6 f6.length c6) := (blk_cell h 6).trans rfl
/-! ### least_table_of: function 20 -/
def least_table_of.f (s0_0 : Int) (s0_1 : Int) (s0_2 : List ByteArray) (s0_3 : List ByteArray) (s0_4 : List (S39)) (s0_5 : List Int) (s0_6 : List (List (List Int))) (a1 : Int) (a2 : Int) (a3 : Int) : Option (Int × Int × Int) := if a1 ≥ 0 then (if 0 ≤ a1 then (if a1 < (s0_6.length : Int) then (if 0 ≤ a2 then (if a2 < ((rd_L4 s0_6 a1).length : Int) then (if 0 ≤ a3 then (if a3 < ((rd_L2 (rd_L4 s0_6 a1) a2).length : Int) then (some (rd (rd_L2 (rd_L4 s0_6 a1) a2) a3, s0_0, s0_1)) else (none)) else (none)) else (none)) else (none)) else (none)) else (none)) else (if a3 = (wrap64 (a2 + 1)) then (if 0 ≤ a2 then (if a2 < (s0_5.length : Int) then (if (rd s0_5 a2) = (wrap64 ((-1) - a1)) then (some (1, s0_0, s0_1)) else (some ((-1), s0_0, s0_1))) else (none)) else (none)) else (some ((-1), s0_0, s0_1)))
set_option maxHeartbeats 8000000 in
set_option maxRecDepth 100000 in
theorem least_table_of.calls (g : Nat) (s0_0 : Int) (s0_1 : Int) (s0_2 : List ByteArray) (s0_3 : List ByteArray) (s0_4 : List (S39)) (s0_5 : List Int) (s0_6 : List (List (List Int))) (a1 : Int) (a2 : Int) (a3 : Int) (r1 : Int) (r2 : Int) (r3 : Int) (w0 w : World) (hI : IsS71 w0 w g s0_0 s0_1 s0_2 s0_3 s0_4 s0_5 s0_6) (hB : Below w0.heap.size w0 w) (h : least_table_of.f s0_0 s0_1 s0_2 s0_3 s0_4 s0_5 s0_6 a1 a2 a3 = some (r1, r2, r3)) :
    Calls Try.prog 20 #[.pointer (some ⟨g, 0, none⟩), .int .i64 a1, .int .i64 a2, .int .i64 a3] w fun e w' => e = .returned (.int .i64 r1) ∧ IsS71 w0 w' g r2 r3 s0_2 s0_3 s0_4 s0_5 s0_6 ∧ Below w0.heap.size w0 w' ∧ KeepBut w w' g none := by
  have HI0 := Aside0.mk hI
  have HK := Aside0.mk (KeepBut.refl w g none)
  have HL := Aside0.mk hB.size
  clear hI
  have HW0 := Aside0.mk hB.size
  have HB := Aside0.mk hB
  clear hB
  have H : (if a1 ≥ 0 then (if 0 ≤ a1 then (if a1 < (s0_6.length : Int) then (if 0 ≤ a2 then (if a2 < ((rd_L4 s0_6 a1).length : Int) then (if 0 ≤ a3 then (if a3 < ((rd_L2 (rd_L4 s0_6 a1) a2).length : Int) then (some (rd (rd_L2 (rd_L4 s0_6 a1) a2) a3, s0_0, s0_1)) else (none)) else (none)) else (none)) else (none)) else (none)) else (none)) else (if a3 = (wrap64 (a2 + 1)) then (if 0 ≤ a2 then (if a2 < (s0_5.length : Int) then (if (rd s0_5 a2) = (wrap64 ((-1) - a1)) then (some (1, s0_0, s0_1)) else (some ((-1), s0_0, s0_1))) else (none)) else (none)) else (some ((-1), s0_0, s0_1)))) = some (r1, r2, r3) := h
  clear h
  by_cases c5 : a1 ≥ 0
  · rw [if_pos c5] at H
    have c5b0 : decide (0 ≤ a1) = true := decide_eq_true c5
    clear c5
    by_cases c6 : 0 ≤ a1
    · rw [if_pos c6] at H
      have c6b0 : decide (0 ≤ a1) = true := decide_eq_true c6
      clear c6
      by_cases c7 : a1 < (s0_6.length : Int)
      · rw [if_pos c7] at H
        have c7b0 : decide (a1 < (s0_6.length : Int)) = true := decide_eq_true c7
        clear c7
        by_cases c8 : 0 ≤ a2
        · rw [if_pos c8] at H
          have c8b0 : decide (0 ≤ a2) = true := decide_eq_true c8
          clear c8
          by_cases c9 : a2 < ((rd_L4 s0_6 a1).length : Int)
          · rw [if_pos c9] at H
            have c9b0 : decide (a2 < ((rd_L4 s0_6 a1).length : Int)) = true := decide_eq_true c9
            clear c9
            by_cases c10 : 0 ≤ a3
            · rw [if_pos c10] at H
              have c10b0 : decide (0 ≤ a3) = true := decide_eq_true c10
              clear c10
              by_cases c11 : a3 < ((rd_L2 (rd_L4 s0_6 a1) a2).length : Int)
              · rw [if_pos c11] at H
                have c11b0 : decide (a3 < ((rd_L2 (rd_L4 s0_6 a1) a2).length : Int)) = true := decide_eq_true c11
                clear c11
                simp only [Option.some.injEq, Prod.mk.injEq] at H
                obtain ⟨rfl, rfl, rfl⟩ := H
                obtain ⟨ASz12_2, cSz12_2, ASz12_3, cSz12_3, ASz12_4, cSz12_4, ASz12_5, cSz12_5, ASz12_6, cSz12_6, HGz12, hgz12, HSz12_2, HSz12_3, HSz12_4, HSz12_5, HSz12_6⟩ := HI0.out
                have hcz12_0 := cellS71_0 HGz12
                have hcz12_1 := cellS71_1 HGz12
                have hcz12_2 := cellS71_2 HGz12
                have hcz12_3 := cellS71_3 HGz12
                have hcz12_4 := cellS71_4 HGz12
                have hcz12_5 := cellS71_5 HGz12
                have hcz12_6 := cellS71_6 HGz12
                have hfz12_0 := blk_frozen HGz12 0
                have hfz12_1 := blk_frozen HGz12 1
                clear HGz12 hgz12
                have p127 : 0 ≤ (a1 : Int) := of_decide_eq_true (by first | (with_reducible assumption) | assumption)
                have q127 : a1 < (s0_6.length : Int) := of_decide_eq_true (by first | (with_reducible assumption) | assumption)
                obtain ⟨ad127, A127_0, c127_0, e127, hx127_0, hl127_0, hi127_0⟩ := at_L4 HSz12_6 a1 p127 q127
                cases e127
                replace hx127_0 := pw_cell_below HB.out hx127_0
                have HR127_0 := Aside0.mk hi127_0
                have HC127_0 := Aside0.mk hl127_0
                clear hi127_0 hl127_0
                replace p127 := eq_true p127
                replace q127 := eq_true q127
                have p128 : 0 ≤ (a2 : Int) := of_decide_eq_true (by first | (with_reducible assumption) | assumption)
                have q128 : a2 < ((rd_L4 s0_6 a1).length : Int) := of_decide_eq_true (by first | (with_reducible assumption) | assumption)
                obtain ⟨ad128, A128_0, c128_0, e128, hx128_0, hl128_0, hi128_0⟩ := at_L2 HR127_0.out a2 p128 q128
                cases e128
                replace hx128_0 := pw_cell_below HB.out hx128_0
                have HR128_0 := Aside0.mk hi128_0
                have HC128_0 := Aside0.mk hl128_0
                clear hi128_0 hl128_0
                replace p128 := eq_true p128
                replace q128 := eq_true q128
                have p129 : 0 ≤ (a3 : Int) := of_decide_eq_true (by first | (with_reducible assumption) | assumption)
                have q129 : a3 < ((rd_L2 (rd_L4 s0_6 a1) a2).length : Int) := of_decide_eq_true (by first | (with_reducible assumption) | assumption)
                obtain ⟨ad129, e129, hx129_0⟩ := Kd.at_int HR128_0.out a3 p129 q129
                cases e129
                replace hx129_0 := pw_cell_below HB.out hx129_0
                replace p129 := eq_true p129
                replace q129 := eq_true q129
                go_enter Try.func20, Try.ntmps20
                go_wp2
                go_ret
                exact ⟨by first | rfl | (simp [errW_none, errW_some] <;> rfl) | (simp [*, errW_none, errW_some] <;> rfl), by repeat (first | (with_reducible first | exact HI0.out | apply IsS71.alloc | apply IsS71.drewN | apply IsS71.drew | apply IsS71.set_0 | apply IsS71.set_1) | exact HI0.out), by repeat (first | (with_reducible first | exact HB.out | apply below_alloc | apply pw_below_drewN | apply below_drew1 | refine below_set ?_ (IsS71.ge HI0.out)) | exact HB.out), by repeat (first | (with_reducible first | exact HK.out | apply KeepBut.set_ | apply keep_drewN | apply keep_drew | apply keep_alloc) | exact HK.out)⟩
              · rw [if_neg c11] at H
                exact absurd H (by simp)
            · rw [if_neg c10] at H
              exact absurd H (by simp)
          · rw [if_neg c9] at H
            exact absurd H (by simp)
        · rw [if_neg c8] at H
          exact absurd H (by simp)
      · rw [if_neg c7] at H
        exact absurd H (by simp)
    · rw [if_neg c6] at H
      exact absurd H (by simp)
  · rw [if_neg c5] at H
    have c5b0 : decide (0 ≤ a1) = false := decide_eq_false c5
    clear c5
    by_cases c13 : a3 = (wrap64 (a2 + 1))
    · rw [if_pos c13] at H
      have c13b0 : (a3 == (wrap64 (a2 + 1))) = true := beq_iff_eq.mpr c13
      have c13b1 : (a3 != (wrap64 (a2 + 1))) = false := bne_eq_false_iff_eq.mpr c13
      clear c13
      by_cases c14 : 0 ≤ a2
      · rw [if_pos c14] at H
        have c14b0 : decide (0 ≤ a2) = true := decide_eq_true c14
        clear c14
        by_cases c15 : a2 < (s0_5.length : Int)
        · rw [if_pos c15] at H
          have c15b0 : decide (a2 < (s0_5.length : Int)) = true := decide_eq_true c15
          clear c15
          by_cases c16 : (rd s0_5 a2) = (wrap64 ((-1) - a1))
          · rw [if_pos c16] at H
            have c16b0 : ((rd s0_5 a2) == (wrap64 ((-1) - a1))) = true := beq_iff_eq.mpr c16
            have c16b1 : ((rd s0_5 a2) != (wrap64 ((-1) - a1))) = false := bne_eq_false_iff_eq.mpr c16
            clear c16
            simp only [Option.some.injEq, Prod.mk.injEq] at H
            obtain ⟨rfl, rfl, rfl⟩ := H
            obtain ⟨ASz17_2, cSz17_2, ASz17_3, cSz17_3, ASz17_4, cSz17_4, ASz17_5, cSz17_5, ASz17_6, cSz17_6, HGz17, hgz17, HSz17_2, HSz17_3, HSz17_4, HSz17_5, HSz17_6⟩ := HI0.out
            have hcz17_0 := cellS71_0 HGz17
            have hcz17_1 := cellS71_1 HGz17
            have hcz17_2 := cellS71_2 HGz17
            have hcz17_3 := cellS71_3 HGz17
            have hcz17_4 := cellS71_4 HGz17
            have hcz17_5 := cellS71_5 HGz17
            have hcz17_6 := cellS71_6 HGz17
            have hfz17_0 := blk_frozen HGz17 0
            have hfz17_1 := blk_frozen HGz17 1
            clear HGz17 hgz17
            have p130 : 0 ≤ (a2 : Int) := of_decide_eq_true (by first | (with_reducible assumption) | assumption)
            have q130 : a2 < (s0_5.length : Int) := of_decide_eq_true (by first | (with_reducible assumption) | assumption)
            obtain ⟨ad130, e130, hx130_0⟩ := Kd.at_int HSz17_5 a2 p130 q130
            cases e130
            replace hx130_0 := pw_cell_below HB.out hx130_0
            replace p130 := eq_true p130
            replace q130 := eq_true q130
            go_enter Try.func20, Try.ntmps20
            go_wp2
            go_ret
            exact ⟨by first | rfl | (simp [errW_none, errW_some] <;> rfl) | (simp [*, errW_none, errW_some] <;> rfl), by repeat (first | (with_reducible first | exact HI0.out | apply IsS71.alloc | apply IsS71.drewN | apply IsS71.drew | apply IsS71.set_0 | apply IsS71.set_1) | exact HI0.out), by repeat (first | (with_reducible first | exact HB.out | apply below_alloc | apply pw_below_drewN | apply below_drew1 | refine below_set ?_ (IsS71.ge HI0.out)) | exact HB.out), by repeat (first | (with_reducible first | exact HK.out | apply KeepBut.set_ | apply keep_drewN | apply keep_drew | apply keep_alloc) | exact HK.out)⟩
          · rw [if_neg c16] at H
            have c16b0 : ((rd s0_5 a2) == (wrap64 ((-1) - a1))) = false := beq_eq_false_iff_ne.mpr c16
            have c16b1 : ((rd s0_5 a2) != (wrap64 ((-1) - a1))) = true := bne_iff_ne.mpr c16
            simp only [Option.some.injEq, Prod.mk.injEq] at H
            obtain ⟨rfl, rfl, rfl⟩ := H
            obtain ⟨ASz18_2, cSz18_2, ASz18_3, cSz18_3, ASz18_4, cSz18_4, ASz18_5, cSz18_5, ASz18_6, cSz18_6, HGz18, hgz18, HSz18_2, HSz18_3, HSz18_4, HSz18_5, HSz18_6⟩ := HI0.out
            have hcz18_0 := cellS71_0 HGz18
            have hcz18_1 := cellS71_1 HGz18
            have hcz18_2 := cellS71_2 HGz18
            have hcz18_3 := cellS71_3 HGz18
            have hcz18_4 := cellS71_4 HGz18
            have hcz18_5 := cellS71_5 HGz18
            have hcz18_6 := cellS71_6 HGz18
            have hfz18_0 := blk_frozen HGz18 0
            have hfz18_1 := blk_frozen HGz18 1
            clear HGz18 hgz18
            have p130 : 0 ≤ (a2 : Int) := of_decide_eq_true (by first | (with_reducible assumption) | assumption)
            have q130 : a2 < (s0_5.length : Int) := of_decide_eq_true (by first | (with_reducible assumption) | assumption)
            obtain ⟨ad130, e130, hx130_0⟩ := Kd.at_int HSz18_5 a2 p130 q130
            cases e130
            replace hx130_0 := pw_cell_below HB.out hx130_0
            replace p130 := eq_true p130
            replace q130 := eq_true q130
            go_enter Try.func20, Try.ntmps20
            go_wp2
            go_ret
            exact ⟨by first | rfl | (simp [errW_none, errW_some] <;> rfl) | (simp [*, errW_none, errW_some] <;> rfl), by repeat (first | (with_reducible first | exact HI0.out | apply IsS71.alloc | apply IsS71.drewN | apply IsS71.drew | apply IsS71.set_0 | apply IsS71.set_1) | exact HI0.out), by repeat (first | (with_reducible first | exact HB.out | apply below_alloc | apply pw_below_drewN | apply below_drew1 | refine below_set ?_ (IsS71.ge HI0.out)) | exact HB.out), by repeat (first | (with_reducible first | exact HK.out | apply KeepBut.set_ | apply keep_drewN | apply keep_drew | apply keep_alloc) | exact HK.out)⟩
        · rw [if_neg c15] at H
          exact absurd H (by simp)
      · rw [if_neg c14] at H
        exact absurd H (by simp)
    · rw [if_neg c13] at H
      have c13b0 : (a3 == (wrap64 (a2 + 1))) = false := beq_eq_false_iff_ne.mpr c13
      have c13b1 : (a3 != (wrap64 (a2 + 1))) = true := bne_iff_ne.mpr c13
      simp only [Option.some.injEq, Prod.mk.injEq] at H
      obtain ⟨rfl, rfl, rfl⟩ := H
      go_enter Try.func20, Try.ntmps20
      go_wp2
      go_ret
      exact ⟨by first | rfl | (simp [errW_none, errW_some] <;> rfl) | (simp [*, errW_none, errW_some] <;> rfl), by repeat (first | (with_reducible first | exact HI0.out | apply IsS71.alloc | apply IsS71.drewN | apply IsS71.drew | apply IsS71.set_0 | apply IsS71.set_1) | exact HI0.out), by repeat (first | (with_reducible first | exact HB.out | apply below_alloc | apply pw_below_drewN | apply below_drew1 | refine below_set ?_ (IsS71.ge HI0.out)) | exact HB.out), by repeat (first | (with_reducible first | exact HK.out | apply KeepBut.set_ | apply keep_drewN | apply keep_drew | apply keep_alloc) | exact HK.out)⟩

end Go.Proofs.Ytnkpmogpmcggiaa
