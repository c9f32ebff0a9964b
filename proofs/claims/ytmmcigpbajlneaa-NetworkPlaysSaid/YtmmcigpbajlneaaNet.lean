/- The methods of a network of frames: what each answers, and what becomes of the frames in transit. -/
import Derived.Test.YtmmcigpbajlneaaDel
import Derived.Lib.Hide
set_option linter.unusedVariables false
set_option linter.unusedSimpArgs false
namespace Go.Proofs.Ytmmcigpbajlneaa
open Go.RowKit

/-- A frame: from, to, bytes, spoilt. -/
structure Fr where
  a : Int
  b : Int
  s : ByteArray
  t : Bool
def Fr.cells (f : Fr) : List Value := [.int .i64 f.a, .int .i64 f.b, .string f.s, .bool f.t]
def frCells (l : List Fr) : List Value := l.flatMap Fr.cells
theorem frCells_nil : frCells [] = [] := rfl
theorem frCells_cons (f : Fr) (l : List Fr) : frCells (f :: l) = f.cells ++ frCells l := rfl
theorem frCells_append (l m : List Fr) : frCells (l ++ m) = frCells l ++ frCells m := by simp [frCells]
theorem frCells_length (l : List Fr) : (frCells l).length = l.length * 4 := by
  induction l with
  | nil => rfl
  | cons f l ih => rw [frCells_cons, List.length_append, ih]; simp [Fr.cells]; omega
theorem frCells_take (l : List Fr) (i : Nat) : frCells (l.take i) = (frCells l).take (i * 4) := by
  induction l generalizing i with
  | nil => simp [frCells]
  | cons f l ih =>
    cases i with
    | zero => simp [frCells]
    | succ i => rw [List.take_succ_cons, frCells_cons, frCells_cons, ih, show (i + 1) * 4 = f.cells.length + i * 4 by simp [Fr.cells]; omega, List.take_append]; simp; exact (List.take_of_length_le (by omega)).symm
theorem frCells_drop (l : List Fr) (i : Nat) : frCells (l.drop i) = (frCells l).drop (i * 4) := by
  induction l generalizing i with
  | nil => simp [frCells]
  | cons f l ih =>
    cases i with
    | zero => simp [frCells]
    | succ i => rw [List.drop_succ_cons, frCells_cons, ih, show (i + 1) * 4 = f.cells.length + i * 4 by simp [Fr.cells]; omega, List.drop_append]; simp
theorem frCells_at (l : List Fr) (i : Nat) (h : i < l.length) (k : Nat) (hk : k < 4) : (frCells l)[i * 4 + k]? = (l[i]).cells[k]? := by
  have e : (frCells l).drop (i * 4) = (l[i]).cells ++ frCells (l.drop (i + 1)) := by
    rw [← frCells_drop, List.drop_eq_getElem_cons h, frCells_cons]
  rw [← List.getElem?_drop, e, List.getElem?_append_left (by simpa [Fr.cells] using hk)]
theorem frCells_set (l : List Fr) (i : Nat) (h : i < l.length) (f : Fr) : frCells (l.set i f) = (frCells l).take (i * 4) ++ f.cells ++ (frCells l).drop (i * 4 + 4) := by
  rw [List.set_eq_take_append_cons_drop, if_pos h, frCells_append, frCells_cons, frCells_take, frCells_drop, List.append_assoc, show (i + 1) * 4 = i * 4 + 4 by omega]
theorem frCells_one (l : List Fr) : ∀ u ∈ frCells l, u.oneCell' = true := by
  intro u hu
  obtain ⟨f, _, hf⟩ := List.mem_flatMap.1 hu
  simp only [Fr.cells, List.mem_cons, List.not_mem_nil, or_false] at hf
  rcases hf with rfl | rfl | rfl | rfl <;> rfl

/-- A network at block g, its frames in a row of its own: v is the slice in its one field. -/
structure NetAt (w : World) (B g : Nat) (v : Value) (l : List Fr) : Prop where
  blk : w.heap[g]? = some (.cells #[v] 26 (0, 0))
  ge : B ≤ g
  own : w.ownsRow B 35 4 v l.length (frCells l)

/-- What a method of a network may turn: its own block and its row. -/
structure Chg (w w' : World) (g : Nat) (v : Value) : Prop where
  os : w'.os = w.os
  tape : w'.tape = w.tape
  output : w'.output = w.output
  size : w.heap.size ≤ w'.heap.size
  block : ∀ k, k < w.heap.size → k ≠ g → some k ≠ v.ownBlock → w'.heap[k]? = w.heap[k]?

/-- The row of v' is that of v, or a new one. -/
def RowOf (w : World) (v v' : Value) : Prop := v'.ownBlock = v.ownBlock ∨ ∃ k, v'.ownBlock = some k ∧ w.heap.size ≤ k
theorem RowOf.ne {w : World} {v v' : Value} (h : RowOf w v v') {k : Nat} (hk : k < w.heap.size) (hv : v.ownBlock ≠ some k) : v'.ownBlock ≠ some k := by
  rcases h with h | ⟨j, h, hj⟩
  · rw [h]; exact hv
  · rw [h]; intro e; simp only [Option.some.injEq] at e; omega
/-- Behind a method: the network holds these frames. -/
def Now (w w' : World) (B g : Nat) (v : Value) (l : List Fr) : Prop := ∃ v', NetAt w' B g v' l ∧ Chg w w' g v ∧ RowOf w v v'

section
variable {w w' : World} {B g : Nat} {v : Value} {l : List Fr}

theorem NetAt.lt (h : NetAt w B g v l) : g < w.heap.size := (Array.getElem?_eq_some_iff.1 h.blk).1
theorem NetAt.cell (h : NetAt w B g v l) : w.cell? ⟨g, 0, none⟩ = some v := by rw [cells_cell h.blk]; rfl
theorem NetAt.frozen (h : NetAt w B g v l) : w.frozen? ⟨g, 0, none⟩ = false := cells_frozen h.blk 0
theorem NetAt.form (h : NetAt w B g v l) : ∃ A c, v = .slice A l.length c := by
  rcases h.own.2 with ⟨rfl, e⟩ | ⟨b, cap, cur, rfl, _⟩
  · exact ⟨none, 0, by rw [e]⟩
  · exact ⟨_, cap, rfl⟩
theorem NetAt.below (h : NetAt w B g v l) (hb : Below w.heap.size w w') : NetAt w' B g v l :=
  ⟨(hb.block g h.lt).trans h.blk, h.ge, h.own.kept ⟨hb.os, hb.tape, hb.output, hb.size, fun k hk _ => hb.block k hk⟩ (row := none) (by cases v.ownBlock <;> simp)⟩
theorem NetAt.alloc (h : NetAt w B g v l) (o : Obj) : NetAt (w.alloc o) B g v l := h.below ((Below.refl _ _).alloc (Nat.le_refl _) o)
theorem NetAt.drew (h : NetAt w B g v l) : NetAt w.drew B g v l := h.below (Below.refl _ _).drew
/-- The slice in the field lies elsewhere than the field. -/
theorem NetAt.apart (h : NetAt w B g v l) : v.ownBlock ≠ some g := by
  intro e
  rcases h.own.2 with ⟨rfl, _⟩ | ⟨b, cap, cur, rfl, _, hb, _⟩
  · cases e
  · simp only [Value.ownBlock, Option.some.injEq] at e
    subst e
    have := h.blk.symm.trans hb
    simp at this
theorem Chg.refl (w : World) (g : Nat) (v : Value) : Chg w w g v := ⟨rfl, rfl, rfl, Nat.le_refl _, fun _ _ _ _ => rfl⟩
theorem Chg.of_below (hb : Below w.heap.size w w') (g : Nat) (v : Value) : Chg w w' g v := ⟨hb.os, hb.tape, hb.output, hb.size, fun k hk _ _ => hb.block k hk⟩
theorem Chg.below {w0 : World} (hc : Chg w w' g v) (h : NetAt w B g v l) (h0 : Below B w0 w) (hB : B ≤ w.heap.size) : Below B w0 w' :=
  ⟨hc.os.trans h0.os, hc.tape.trans h0.tape, hc.output.trans h0.output, Nat.le_trans h0.size hc.size, fun k hk => by
    refine (hc.block k (by omega) (by have := h.ge; omega) (fun e => ?_)).trans (h0.block k hk)
    have := h.own.lt k e.symm
    omega⟩
theorem Chg.after {W : World} (hc : Chg W w' g v) (hb : Below w.heap.size w W) : Chg w w' g v :=
  ⟨hc.os.trans hb.os, hc.tape.trans hb.tape, hc.output.trans hb.output, Nat.le_trans hb.size hc.size, fun k hk h1 h2 => (hc.block k (Nat.lt_of_lt_of_le hk hb.size) h1 h2).trans (hb.block k hk)⟩
theorem Chg.setNew (hc : Chg w w' g v) {p : Addr} (hp : w.heap.size ≤ p.block) (u : Value) : Chg w (w'.setCell p u) g v :=
  ⟨hc.os, hc.tape, hc.output, by have := hc.size; simp [World.setCell]; omega, fun k hk h1 h2 => (Below.heap_setCell _ _ _ _ (by omega)).trans (hc.block k hk h1 h2)⟩
theorem Chg.allocNew (hc : Chg w w' g v) (o : Obj) : Chg w (w'.alloc o) g v :=
  ⟨hc.os, hc.tape, hc.output, by have := hc.size; simp; omega, fun k hk h1 h2 => (Below.heap_alloc _ _ _ (Nat.lt_of_lt_of_le hk hc.size)).trans (hc.block k hk h1 h2)⟩
theorem Chg.drew (hc : Chg w w' g v) : Chg w w'.drew g v := ⟨hc.os, hc.tape, hc.output, hc.size, hc.block⟩
theorem NetAt.setFar (h : NetAt w B g v l) {p : Addr} (hp : p.block ≠ g) (hv : some p.block ≠ v.ownBlock) (u : Value) : NetAt (w.setCell p u) B g v l :=
  ⟨(Below.heap_setCell _ _ _ _ (fun e => hp e.symm)).trans h.blk, h.ge, h.own.kept (row := some p.block) ⟨rfl, rfl, rfl, by simp [World.setCell], fun k _ hk => Below.heap_setCell _ _ _ _ (fun e => hk (by rw [e]))⟩ (.inr fun e => hv e.symm)⟩
/-- A row of another element type stays. -/
theorem Chg.row (hc : Chg w w' g v) (h : NetAt w B g v l) {B' E sz n : Nat} {u : Value} {xs : List Value} (hr : w.ownsRow B' E sz u n xs) (h1 : E ≠ 26) (h2 : E ≠ 35) : w'.ownsRow B' E sz u n xs := by
  refine ⟨hr.1, ?_⟩
  rcases hr.2 with hn | ⟨b, cap, cur, rfl, hb, hbb, rest⟩
  · exact .inl hn
  · refine .inr ⟨b, cap, cur, rfl, hb, ?_, rest⟩
    rw [hc.block b (Array.getElem?_eq_some_iff.1 hbb).1 (fun e => ?_) (fun e => ?_)]
    · exact hbb
    · subst e
      have := hbb.symm.trans h.blk
      simp only [Option.some.injEq, Obj.cells.injEq] at this
      exact h1 this.2.1
    · rcases h.own.2 with ⟨rfl, _⟩ | ⟨b', cap', cur', rfl, _, hb', _⟩
      · simp [Value.ownBlock] at e
      · simp only [Value.ownBlock, Option.some.injEq] at e
        subst e
        have := hbb.symm.trans hb'
        simp only [Option.some.injEq, Obj.cells.injEq] at this
        exact h2 this.2.1
/-- A block that is neither the network's nor its row's, by its type. -/
theorem Chg.cells (hc : Chg w w' g v) (h : NetAt w B g v l) {b T : Nat} {cur : Array Value} {fr : Nat × Nat} (hr : w.heap[b]? = some (.cells cur T fr)) (h1 : T ≠ 26) (h2 : T ≠ 35 ∨ b < B) : w'.heap[b]? = some (.cells cur T fr) := by
  rw [hc.block b (Array.getElem?_eq_some_iff.1 hr).1 (fun e => ?_) (fun e => ?_)]
  · exact hr
  · subst e
    have := hr.symm.trans h.blk
    simp only [Option.some.injEq, Obj.cells.injEq] at this
    exact h1 this.2.1
  · rcases h2 with h2 | h2
    · rcases h.own.2 with ⟨rfl, _⟩ | ⟨b', cap', cur', rfl, _, hb', _⟩
      · simp [Value.ownBlock] at e
      · simp only [Value.ownBlock, Option.some.injEq] at e
        subst e
        have := hr.symm.trans hb'
        simp only [Option.some.injEq, Obj.cells.injEq] at this
        exact h2 this.2.1
    · have := h.own.lt b e.symm
      omega
end

theorem tmod_round (i n : Int) (h1 : 1 ≤ n) (h2 : n ≤ 100000) : (wrap64 (i.tmod n + n)).tmod n = i % n := by
  have a1 := Int.tmod_lt_of_pos i (show 0 < n by omega)
  have a2 := Int.lt_tmod_of_pos i (show 0 < n by omega)
  have e : wrap64 (i.tmod n + n) = i.tmod n + n := by unfold wrap64; omega
  have e2 : i.tmod n = i + n * (-(i.tdiv n)) := by
    have := Int.mul_tdiv_add_tmod i n
    rw [Int.mul_neg]
    omega
  rw [e, Int.tmod_eq_emod_of_nonneg (by omega), Int.add_emod_right, e2, Int.add_mul_emod_self_left]

theorem round_calls (i n : Int) (w : World) (h1 : 1 ≤ n) (h2 : n ≤ 100000) :
    Calls Try.prog 14 #[.int .i64 i, .int .i64 n] w fun e w' => e = .returned (.int .i64 (i % n)) ∧ w' = w := by
  have H := Lib.hid (tmod_round i n h1 h2)
  go_enter Try.func14, Try.ntmps14
  go_wp2
  go_ret
  rw [H.out]
  exact ⟨rfl, rfl⟩

theorem count_any (g : Nat) (A : Option Addr) (n c : Nat) (w : World) (hc : w.cell? ⟨g, 0, none⟩ = some (.slice A n c)) :
    Calls Try.prog 13 #[.pointer (some ⟨g, 0, none⟩)] w fun e w' => e = .returned (.int .i64 n) ∧ w' = w := by
  go_enter Try.func13, Try.ntmps13
  go_wp2
  go_ret
  exact ⟨rfl, rfl⟩
theorem count_calls {B g : Nat} {v : Value} {l : List Fr} {w : World} (h : NetAt w B g v l) :
    Calls Try.prog 13 #[.pointer (some ⟨g, 0, none⟩)] w fun e w' => e = .returned (.int .i64 l.length) ∧ w' = w := by
  obtain ⟨A, c, rfl⟩ := h.form
  exact count_any g A _ c w h.cell
theorem count_nil (w : World) : Calls Try.prog 13 #[.pointer none] w fun e w' => e = .returned (.int .i64 0) ∧ w' = w := by
  go_enter Try.func13, Try.ntmps13
  go_wp2
  go_ret
  exact ⟨rfl, rfl⟩

def zagg : Value := .agg #[.int .i64 0, .int .i64 0, .string ⟨#[]⟩, .bool false]
def Fr.agg (f : Fr) : Value := .agg #[.int .i64 f.a, .int .i64 f.b, .string f.s, .bool f.t]

end Go.Proofs.Ytmmcigpbajlneaa
