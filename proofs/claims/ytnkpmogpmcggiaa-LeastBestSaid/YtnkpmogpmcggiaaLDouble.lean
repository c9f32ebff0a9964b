/- The law's own grammar: right, Nodes, Tree. -/
import Derived.Test.YtnkpmogpmcggiaaLTop
import Derived.Test.YtnkpmogpmcggiaaLEval
import Derived.Test.YtnkpmogpmcggiaaLSize
set_option linter.unusedVariables false
set_option linter.unusedSimpArgs false
namespace Go.Proofs.Ytnkpmogpmcggiaa
open Go.RowKit Go.Proofs.YtnkpmogpmcggiaaW.PrintWords Go.Proofs.YtnkpmogpmcggiaaW.PrintLast Go.Proofs.YtnkpmogpmcggiaaW.PrintMore

def dN : List ByteArray := [⟨#[83]⟩]
def dT : List ByteArray := [⟨#[120]⟩]
/-- The grammar's data at a place, with a start and a word. -/
def dTb (A2 : Option Addr) (c2 : Nat) (A3 : Option Addr) (c3 : Nat) (A4 : Option Addr) (c4 : Nat) (A5 : Option Addr) (c5 : Nat) (s : Int) (word : List Int) : Tb := ⟨s, 1, A2, c2, dN, A3, c3, dT, A4, c4, dP, A5, c5, word⟩
structure DAt (w : World) (A2 : Option Addr) (c2 : Nat) (A3 : Option Addr) (c3 : Nat) (A4 : Option Addr) (c4 : Nat) : Prop where
  b2 : 1 ≤ c2
  b3 : 1 ≤ c3
  b4 : 3 ≤ c4
  r2 : Kd.C Kd.string w A2 1 dN
  r3 : Kd.C Kd.string w A3 1 dT
  r4 : Kd.C k39 w A4 3 dP
theorem DAt.below {w w1 : World} {A2 : Option Addr} {c2 : Nat} {A3 : Option Addr} {c3 : Nat} {A4 : Option Addr} {c4 : Nat} (h : DAt w A2 c2 A3 c3 A4 c4) (hb : Below w.heap.size w w1) : DAt w1 A2 c2 A3 c3 A4 c4 :=
  ⟨h.b2, h.b3, h.b4, Kd.C_below h.r2 hb, Kd.C_below h.r3 hb, Kd.C_below h.r4 hb⟩

theorem doubles_at (w : World) : Calls Try.prog 8 #[] w fun e w' => ∃ A2 c2 A3 c3 A4 c4, e = .returned (.agg #[.int .i64 0, .int .i64 1, .slice A2 1 c2, .slice A3 1 c3, .slice A4 3 c4]) ∧ DAt w' A2 c2 A3 c3 A4 c4 ∧ Below w.heap.size w w' := by
  refine (primerlaw15_doubles.calls 0 1 dN dT dP w rfl).mono ?_
  rintro e w' ⟨v2, v3, v4, rfl, h2, h3, h4, hb⟩
  obtain ⟨A2, c2, rfl⟩ := Kd.R_slice h2
  obtain ⟨A3, c3, rfl⟩ := Kd.R_slice h3
  obtain ⟨A4, c4, rfl⟩ := Kd.N_slice h4
  exact ⟨A2, c2, A3, c3, A4, c4, rfl, ⟨(Kd.R_reads' h2).2.1, (Kd.R_reads' h3).2.1, (Kd.N_reads' h4).2.1, (Kd.R_reads' h2).2.2, (Kd.R_reads' h3).2.2, (Kd.N_reads' h4).2.2⟩, hb⟩

theorem apart_one (b : UInt8) (m : Int) (h : 1 ≤ m) : Apart [⟨#[b]⟩] m := by
  refine ⟨fun s hs => ?_, by simp⟩
  simp only [List.mem_singleton] at hs
  subst hs
  exact ⟨by show (1 : Nat) ≠ 0; decide, by show ((1 : Nat) : Int) ≤ m; omega⟩
theorem d_sound : SoundL 1 dN dT dP :=
  ⟨by decide, by decide, by decide, by decide, apart_one _ _ (by decide), by decide, apart_one _ _ (by decide), by decide, by decide, fun k hk => by
    have h3 : k + 1 < 3 := hk
    rcases (show k = 0 ∨ k = 1 by omega) with rfl | rfl <;> decide⟩
theorem lit_C {W : World} {g : Nat} (l : List Int) (hl : l.length ≤ 1000) (hg : W.heap[g]? = some (.cells (l.map (Value.int .i64)).toArray 3 (0, 0))) : Kd.C (Kd.int .i64) W (some ⟨g, 0, none⟩) l.length l := by
  have ho : W.ownsRow g 3 1 (.slice (some ⟨g, 0, none⟩) l.length l.length) l.length (encs (Value.int .i64) l) := by
    refine ⟨by simp [encs], .inr ⟨g, l.length, _, by simp, Nat.le_refl _, hg, by simp, by simp only [maxLen]; omega, by simp, ?_⟩⟩
    simp [encs]
    exact List.take_of_length_le (by simp)
  exact (Kd.R_reads' (Kd.R_of_own ho (ok := fun _ => True) (fun _ _ => trivial))).2.2

section
variable {A2 : Option Addr} {c2 : Nat} {A3 : Option Addr} {c3 : Nat} {A4 : Option Addr} {c4 : Nat} {A5 : Option Addr} {c5 : Nat} {s : Int} {word : List Int} {w : World}
def dRight (s : Int) (word : List Int) : Bool := decide (s = 0) && (decide ((word.length : Int) ≤ 64) && !(word.any (termOut 1)))
theorem d_right (h : DAt w A2 c2 A3 c3 A4 c4) (h5 : Kd.C (Kd.int .i64) w A5 word.length word) : Calls Try.prog 18 #[(dTb A2 c2 A3 c3 A4 c4 A5 c5 s word).agg, (dTb A2 c2 A3 c3 A4 c4 A5 c5 s word).row] w fun e w' => e = .returned (.bool (dRight s word)) ∧ Below w.heap.size w w' := by
  have := right_calls (start := s) (rules := 1) (A2 := A2) (c2 := c2) (l2 := dN) (A3 := A3) (c3 := c3) (l3 := dT) (A4 := A4) (c4 := c4) (l4 := dP) (w := w) (decide (s = 0)) (A1 := A5) (c1 := c5) (l1 := word) h.r3 h5 (fun W hb => by
    have hB := h.below hb
    by_cases e : s = 0
    · rw [decide_eq_true e]
      exact sound_true hB.r2 hB.r3 hB.r4 d_sound (by omega) (by rw [e]; decide)
    · rw [decide_eq_false e]
      exact sound_false hB.r2 hB.r3 hB.r4 d_sound (by have : dN.length = 1 := rfl; omega))
  exact this
theorem d_came (h : DAt w A2 c2 A3 c3 A4 c4) (h5 : Kd.C (Kd.int .i64) w A5 word.length word) : (dTb A2 c2 A3 c3 A4 c4 A5 c5 s word).Came w := ⟨h.r2, h.r3, h.r4, h5⟩
theorem d_fit (h : DAt w A2 c2 A3 c3 A4 c4) (b5 : word.length ≤ c5) (hl : word.length ≤ 900) : (dTb A2 c2 A3 c3 A4 c4 A5 c5 s word).Fit := ⟨h.b2, h.b3, h.b4, b5, hl, by show (1 : Nat) ≤ 1000; decide⟩
theorem d_good (hr : dRight s word = true) : (dTb A2 c2 A3 c3 A4 c4 A5 c5 s word).Good := by
  have e : s = 0 := by
    unfold dRight at hr
    rw [Bool.and_eq_true] at hr
    exact of_decide_eq_true hr.1
  subst e
  exact ⟨by show Over 1 dP; unfold Over; decide, by show (0 : Int) ≤ 0; decide, by show (0 : Int) < ((1 : Nat) : Int); decide⟩

theorem d_nodes (h : DAt w A2 c2 A3 c3 A4 c4) (h5 : Kd.C (Kd.int .i64) w A5 word.length word) (b5 : word.length ≤ c5) (hl : word.length ≤ 900) :
    Calls Try.prog 10 #[.agg #[.int .i64 s, .int .i64 1, .slice A2 1 c2, .slice A3 1 c3, .slice A4 3 c4], .slice A5 word.length c5] w fun e w' =>
      e = .returned (.int .i64 (if dRight s word then ofL word (fillL 1 dP word) s 0 word.length else -1)) ∧ Below w.heap.size w w' :=
  nodes_calls (dTb A2 c2 A3 c3 A4 c4 A5 c5 s word) w (d_came h h5) (d_fit h b5 hl) (dRight s word) d_good (fun W hb => d_right (h.below hb) (Kd.C_below h5 hb))
theorem d_tree (h : DAt w A2 c2 A3 c3 A4 c4) (h5 : Kd.C (Kd.int .i64) w A5 word.length word) (b5 : word.length ≤ c5) (hl : word.length ≤ 900) (fuel : Nat) (r : S30) (er : Int)
    (ht : (if dRight s word then
      if ofL word (fillL 1 dP word) s 0 word.length = -1 then some (⟨0, []⟩, 10)
      else if ofL word (fillL 1 dP word) s 0 word.length > 65536 then some (⟨0, []⟩, 6)
      else (treeL dP word (fillL 1 dP word) fuel s 0 word.length).bind fun r => some (r, 0)
      else some (⟨0, []⟩, 1)) = some (r, er)) :
    Calls Try.prog 9 #[.agg #[.int .i64 s, .int .i64 1, .slice A2 1 c2, .slice A3 1 c3, .slice A4 3 c4], .slice A5 word.length c5] w fun e w' =>
      ∃ A c, e = .returned (.tuple #[.agg #[.int .i64 r.f0, .slice A r.f1.length c], .int .i64 er]) ∧ Below w.heap.size w w' :=
  (top_calls (dTb A2 c2 A3 c3 A4 c4 A5 c5 s word) w (d_came h h5) (d_fit h b5 hl) (dRight s word) d_good (fun W hb => d_right (h.below hb) (Kd.C_below h5 hb)) fuel r er ht).mono fun _ _ ⟨A, c, he, _, hb⟩ => ⟨A, c, he, hb⟩
end

/-- The words of the law. -/
theorem right2 : dRight 0 [0, 0] = true := by decide
theorem nodes2 : ofL [0, 0] (fillL 1 dP [0, 0]) 0 0 2 = 3 := by rw [fill2]; kernel_rfl
theorem tree2 : treeL dP [0, 0] (fillL 1 dP [0, 0]) 5 0 0 2 = some ⟨2, [⟨-1, []⟩, ⟨-1, []⟩]⟩ := by rw [fill2]; kernel_rfl
theorem right1 : dRight 0 [0] = true := by decide
theorem nodes1 : ofL [0] (fillL 1 dP [0]) 0 0 1 = 2 := by rw [fill1]; kernel_rfl
theorem tree1 : treeL dP [0] (fillL 1 dP [0]) 5 0 0 1 = some ⟨1, [⟨-1, []⟩]⟩ := by rw [fill1]; kernel_rfl

section
variable {A2 : Option Addr} {c2 : Nat} {A3 : Option Addr} {c3 : Nat} {A4 : Option Addr} {c4 : Nat} {A5 : Option Addr} {c5 : Nat} {s : Int} {word : List Int} {w : World}
theorem tree_two (h : DAt w A2 c2 A3 c3 A4 c4) (h5 : Kd.C (Kd.int .i64) w A5 2 [0, 0]) (b5 : 2 ≤ c5) :
    Calls Try.prog 9 #[.agg #[.int .i64 0, .int .i64 1, .slice A2 1 c2, .slice A3 1 c3, .slice A4 3 c4], .slice A5 2 c5] w fun e w' =>
      ∃ A c, e = .returned (.tuple #[.agg #[.int .i64 2, .slice A 2 c], .int .i64 0]) ∧ Below w.heap.size w w' :=
  d_tree (word := [0, 0]) h h5 b5 (by decide) 5 ⟨2, [⟨-1, []⟩, ⟨-1, []⟩]⟩ 0 (by
    rw [right2, if_pos rfl, show ([0, 0] : List Int).length = 2 from rfl, nodes2, tree2, if_neg (by decide), if_neg (by decide)]; rfl)
theorem nodes_two (h : DAt w A2 c2 A3 c3 A4 c4) (h5 : Kd.C (Kd.int .i64) w A5 2 [0, 0]) (b5 : 2 ≤ c5) :
    Calls Try.prog 10 #[.agg #[.int .i64 0, .int .i64 1, .slice A2 1 c2, .slice A3 1 c3, .slice A4 3 c4], .slice A5 2 c5] w fun e w' => e = .returned (.int .i64 3) ∧ Below w.heap.size w w' := by
  have := d_nodes (s := 0) (word := [0, 0]) h h5 b5 (by decide)
  rw [right2, if_pos rfl, show ([0, 0] : List Int).length = 2 from rfl, nodes2] at this
  exact this
theorem tree_one (h : DAt w A2 c2 A3 c3 A4 c4) (h5 : Kd.C (Kd.int .i64) w A5 1 [0]) (b5 : 1 ≤ c5) :
    Calls Try.prog 9 #[.agg #[.int .i64 0, .int .i64 1, .slice A2 1 c2, .slice A3 1 c3, .slice A4 3 c4], .slice A5 1 c5] w fun e w' =>
      ∃ x A n c, e = .returned (.tuple #[.agg #[.int .i64 x, .slice A n c], .int .i64 0]) ∧ Below w.heap.size w w' :=
  (d_tree (word := [0]) h h5 b5 (by decide) 5 ⟨1, [⟨-1, []⟩]⟩ 0 (by
    rw [right1, if_pos rfl, show ([0] : List Int).length = 1 from rfl, nodes1, tree1, if_neg (by decide), if_neg (by decide)]; rfl)).mono fun _ _ ⟨A, c, he, hb⟩ => ⟨_, A, _, c, he, hb⟩
theorem nodes_one (h : DAt w A2 c2 A3 c3 A4 c4) (h5 : Kd.C (Kd.int .i64) w A5 1 [0]) (b5 : 1 ≤ c5) :
    Calls Try.prog 10 #[.agg #[.int .i64 0, .int .i64 1, .slice A2 1 c2, .slice A3 1 c3, .slice A4 3 c4], .slice A5 1 c5] w fun e w' => e = .returned (.int .i64 2) ∧ Below w.heap.size w w' := by
  have := d_nodes (s := 0) (word := [0]) h h5 b5 (by decide)
  rw [right1, if_pos rfl, show ([0] : List Int).length = 1 from rfl, nodes1] at this
  exact this
theorem tree_bad (h : DAt w A2 c2 A3 c3 A4 c4) (h5 : Kd.C (Kd.int .i64) w A5 word.length word) (b5 : word.length ≤ c5) (hl : word.length ≤ 900) (hr : dRight s word = false) :
    Calls Try.prog 9 #[.agg #[.int .i64 s, .int .i64 1, .slice A2 1 c2, .slice A3 1 c3, .slice A4 3 c4], .slice A5 word.length c5] w fun e w' =>
      ∃ x A n c, e = .returned (.tuple #[.agg #[.int .i64 x, .slice A n c], .int .i64 1]) ∧ Below w.heap.size w w' :=
  (d_tree h h5 b5 hl 5 ⟨0, []⟩ 1 (by rw [hr]; rfl)).mono fun _ _ ⟨A, c, he, hb⟩ => ⟨_, A, _, c, he, hb⟩
theorem nodes_bad (h : DAt w A2 c2 A3 c3 A4 c4) (h5 : Kd.C (Kd.int .i64) w A5 word.length word) (b5 : word.length ≤ c5) (hl : word.length ≤ 900) (hr : dRight s word = false) :
    Calls Try.prog 10 #[.agg #[.int .i64 s, .int .i64 1, .slice A2 1 c2, .slice A3 1 c3, .slice A4 3 c4], .slice A5 word.length c5] w fun e w' => e = .returned (.int .i64 (-1)) ∧ Below w.heap.size w w' := by
  have := d_nodes (s := s) h h5 b5 hl
  rw [hr] at this
  exact this
end
end Go.Proofs.Ytnkpmogpmcggiaa
