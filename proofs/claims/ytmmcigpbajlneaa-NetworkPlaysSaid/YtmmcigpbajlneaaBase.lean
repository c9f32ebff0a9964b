/- Small lemmas about memory: rows of cells that are set one by one, what a world keeps. -/
import Derived.WalkKit
import Derived.Deep.RegionLaw
import Derived.Deep.Upon
import Derived.Maps.AppendAt
import Derived.Lib.SliceRun
import Derived.StillTailTactics
import Derived.Deep.AppendLies
import Derived.Lib.ConvBytes
import Derived.Laws.BytesArg
import Derived.Lib.Hide
import Derived.Deep.Draws
set_option linter.unusedVariables false
set_option linter.unusedSimpArgs false
namespace Go.Proofs.Ytmmcigpbajlneaa
open Go.RowKit

theorem heap_setCell_row {w : World} {b : Nat} {cur : Array Value} {t : TypeId} {fr : Nat × Nat} (h : w.heap[b]? = some (.cells cur t fr)) (o : Nat) (v : Value) :
    (w.setCell ⟨b, o, none⟩ v).heap[b]? = some (.cells (cur.setIfInBounds o v) t fr) := by
  simp [World.setCell, Array.getElem?_modify, h]

theorem heap_setCells {t : TypeId} {fr : Nat × Nat} (b : Nat) : ∀ (vs : List Value) (o : Nat) (w : World) (cur : Array Value), w.heap[b]? = some (.cells cur t fr) → o + vs.length ≤ cur.size →
    ∃ cur', (w.setCells b o vs).heap[b]? = some (.cells cur' t fr) ∧ cur'.toList = cur.toList.take o ++ vs ++ cur.toList.drop (o + vs.length)
  | [], o, w, cur, h, _ => ⟨cur, h, by simp⟩
  | v :: r, o, w, cur, h, hl => by
    obtain ⟨cur', h1, h2⟩ := heap_setCells b r (o + 1) (w.setCell ⟨b, o, none⟩ v) (cur.setIfInBounds o v) (heap_setCell_row h o v) (by simp at hl ⊢; omega)
    refine ⟨cur', h1, h2.trans ?_⟩
    have ho : o < cur.toList.length := by simp at hl ⊢; omega
    simp only [List.length_cons] at hl ⊢
    have e1 : (cur.setIfInBounds o v).toList = cur.toList.set o v := by simp
    rw [e1]
    have e2 : (cur.toList.set o v).take (o + 1) = cur.toList.take o ++ [v] := by
      rw [List.take_set, List.take_succ_eq_append_getElem ho, List.set_append_right _ _ (by simp; omega)]
      have ho' : min o cur.size = o := Nat.min_eq_left (by simp at ho; omega)
      simp [ho']
    have e3 : (cur.toList.set o v).drop (o + 1 + r.length) = cur.toList.drop (o + (r.length + 1)) := by
      rw [List.drop_set, if_pos (by omega)]
      congr 1
      omega
    rw [e2, e3]
    simp

theorem tape_setCells (b : Nat) : ∀ (vs : List Value) (o : Nat) (w : World), (w.setCells b o vs).tape = w.tape
  | [], _, _ => rfl
  | _ :: r, o, w => tape_setCells b r (o + 1) _

theorem size_setCells (b : Nat) : ∀ (vs : List Value) (o : Nat) (w : World), (w.setCells b o vs).heap.size = w.heap.size
  | [], _, _ => rfl
  | _ :: r, o, w => (size_setCells b r (o + 1) _).trans (by simp [World.setCell])

/-- What is written lies in block b alone. -/
theorem grownBy_setCells (w : World) (b o : Nat) (vs : List Value) : w.grownBy (w.setCells b o vs) (some b) :=
  ⟨World.os_setCells _ _ _ _, tape_setCells _ _ _ _, World.output_setCells _ _ _ _, Nat.le_of_eq (size_setCells _ _ _ _).symm,
    fun _ hk hne => World.heap_setCells_other _ _ _ _ hk (fun e => hne (by rw [e]))⟩

theorem grownBy_setCell {w w1 : World} {b : Nat} (h : w.grownBy w1 (some b)) (o : Nat) (v : Value) : w.grownBy (w1.setCell ⟨b, o, none⟩ v) (some b) :=
  ⟨h.os, h.tape, h.output, by have := h.size; simp [World.setCell]; omega, fun k hk hne => (Below.heap_setCell _ _ _ _ (fun e => hne (by rw [e]))).trans (h.block k hk hne)⟩
theorem grownBy_refl (w : World) (row : Option Nat) : w.grownBy w row := ⟨rfl, rfl, rfl, Nat.le_refl _, fun _ _ _ => rfl⟩
theorem grownBy_drew {w w' : World} {row : Option Nat} (h : w.grownBy w' row) : w.grownBy w'.drew row := ⟨h.os, h.tape, h.output, h.size, h.block⟩
theorem grownBy_of_drew {w w' : World} {row : Option Nat} (h : w.drew.grownBy w' row) : w.grownBy w' row := ⟨h.os, h.tape, h.output, h.size, h.block⟩
theorem grownBy_trans {w w1 w2 : World} {row : Option Nat} (h : w.grownBy w1 row) (k : w1.grownBy w2 row) : w.grownBy w2 row :=
  ⟨k.os.trans h.os, k.tape.trans h.tape, k.output.trans h.output, Nat.le_trans h.size k.size, fun i hi hne => (k.block i (Nat.lt_of_lt_of_le hi h.size) hne).trans (h.block i hi hne)⟩

/-- A slice's row, laid open. -/
theorem own_open {w : World} {B E sz n g cap : Nat} {xs : List Value} (h : w.ownsRow B E sz (.slice (some ⟨g, 0, none⟩) n cap) n xs) :
    ∃ cur : Array Value, w.heap[g]? = some (.cells cur E (0, 0)) ∧ B ≤ g ∧ n ≤ cap ∧ cap ≤ maxLen ∧ cur.size = cap * sz ∧ cur.toList.take (n * sz) = xs := by
  rcases h.2 with ⟨h1, _⟩ | ⟨g', cap', cur, hv, hb, hg, h1, h2, h3, h4⟩
  · cases h1
  · injection hv with e1 e2 e3
    injection e1 with e1
    injection e1 with e1
    subst e1
    subst e3
    exact ⟨cur, hg, hb, h1, h2, h3, h4⟩

theorem cells_frozen {w : World} {b : Nat} {cur : Array Value} {t : TypeId} (h : w.heap[b]? = some (.cells cur t (0, 0))) (j : Nat) : w.frozen? ⟨b, j, none⟩ = false := by
  simp [World.frozen?, h]
theorem cells_cell {w : World} {b : Nat} {cur : Array Value} {t : TypeId} {fr : Nat × Nat} (h : w.heap[b]? = some (.cells cur t fr)) (j : Nat) : w.cell? ⟨b, j, none⟩ = cur[j]? :=
  cell_of_row w b j cur t fr h

theorem own_some {w : World} {B E sz n : Nat} {v : Value} {xs : List Value} (h : w.ownsRow B E sz v n xs) (hn : 0 < n) : ∃ g cap, v = .slice (some ⟨g, 0, none⟩) n cap := by
  rcases h.2 with ⟨_, h1⟩ | ⟨g, cap, cur, hv, _⟩
  · omega
  · exact ⟨g, cap, hv⟩

theorem isEmpty_false (s : ByteArray) (h : s.size ≠ 0) : s.toList.isEmpty = false := by
  rw [ByteArray.toList_eq, List.isEmpty_eq_false_iff]
  intro e
  exact h (by rw [← ByteArray.size_data, ← Array.length_toList, e]; rfl)

theorem pow256_pos (d : Nat) : (0 : Int) < 256 ^ d := Int.pow_pos (by decide)
theorem shr_bounds (y : Int) (d : Nat) (h0 : 0 ≤ y) (h1 : y ≤ 4294967295) : 0 ≤ y / 256 ^ d ∧ y / 256 ^ d ≤ 4294967295 :=
  ⟨Int.ediv_nonneg h0 (Int.le_of_lt (pow256_pos d)), Int.le_trans (Int.ediv_le_self _ h0) h1⟩
theorem shr_succ (y : Int) (d : Nat) : y / 256 ^ d / 256 = y / 256 ^ (d + 1) := by
  rw [Int.pow_succ, Int.ediv_ediv_of_nonneg (Int.le_of_lt (pow256_pos d))]

theorem below_drewN {B : Nat} {w W : World} (h : Below B w W) (n : Nat) : Below B w (W.drewN n) := ⟨h.os, h.tape, h.output, h.size, h.block⟩

/-- A row of bytes, as a conversion has made it: its cells, and behind them a mark. -/
structure BytesAt (w : World) (b T : Nat) (xs : List Int) : Prop where
  ex : ∃ cur : Array Value, w.heap[b]? = some (.cells cur T (cur.size, cur.size + 1)) ∧ xs.length ≤ cur.size ∧ cur.toList.take xs.length = xs.map (Value.int .u8)
section
variable {w w' : World} {b T : Nat} {xs : List Int}
theorem BytesAt.lt (h : BytesAt w b T xs) : b < w.heap.size := by
  obtain ⟨cur, h1, _⟩ := h.ex
  exact (Array.getElem?_eq_some_iff.1 h1).1
theorem BytesAt.cell (h : BytesAt w b T xs) (j : Nat) (x : Int) (hx : xs[j]? = some x) : w.cell? ⟨b, j, none⟩ = some (.int .u8 x) := by
  obtain ⟨cur, h1, h2, h3⟩ := h.ex
  have hj := (List.getElem?_eq_some_iff.1 hx).1
  rw [cells_cell h1, ← Array.getElem?_toList]
  have : (cur.toList.take xs.length)[j]? = cur.toList[j]? := by rw [List.getElem?_take, if_pos hj]
  rw [← this, h3, List.getElem?_map, hx]
  rfl
theorem BytesAt.frozen (h : BytesAt w b T xs) (j : Nat) (hj : j < xs.length) : w.frozen? ⟨b, j, none⟩ = false := by
  obtain ⟨cur, h1, h2, h3⟩ := h.ex
  simp [World.frozen?, h1]
  omega
theorem BytesAt.of_block (h : BytesAt w b T xs) (e : w'.heap[b]? = w.heap[b]?) : BytesAt w' b T xs := by
  obtain ⟨cur, h1, h2⟩ := h.ex
  exact ⟨cur, e.trans h1, h2⟩
theorem BytesAt.set (h : BytesAt w b T xs) (j : Nat) (hj : j < xs.length) (y : Int) : BytesAt (w.setCell ⟨b, j, none⟩ (.int .u8 y)) b T (xs.set j y) := by
  obtain ⟨cur, h1, h2, h3⟩ := h.ex
  refine ⟨cur.setIfInBounds j (.int .u8 y), by rw [heap_setCell_row h1]; simp, by simpa using h2, ?_⟩
  rw [Array.toList_setIfInBounds, List.length_set, List.take_set, h3, List.map_set]
theorem bytesAt_new (w : World) (T : Nat) (s : ByteArray) : BytesAt (Lib.bytesWorld w T s) w.heap.size T (s.data.toList.map fun c => (c.toNat : Int)) := by
  refine ⟨_, Lib.bytesWorld_at_new w T s, ?_, ?_⟩
  · simp [Lib.bytesCells]
  · simp [Lib.bytesCells]
theorem below_bytesWorld (w : World) (T : Nat) (s : ByteArray) : Below w.heap.size w (Lib.bytesWorld w T s) :=
  ⟨rfl, rfl, rfl, by rw [Lib.bytesWorld_size]; omega, fun k hk => Lib.bytesWorld_at_old w T s k hk⟩
end

/-- The walk of a region that draws its order, its last operations forced: the world is written 'w.drew'. -/
theorem wp_tail {P : Program} {id : Nat} {Q : Exit → Act → World → Prop} {a : Act} {w : World} {l : List Oper} (n : Nat) (hm : P.follows .mixedOrders = true) (hB : Region.lexTailB .any l.toArray n = true)
    (h : wpStill P l.toArray w.drew (fun a' => wpList P l.toArray Q (l.drop n) a' w.drew) (l.take n) a) : (Code.region id l.toArray true).wp P Q a w :=
  wp_region_still_tail n hm hB h

end Go.Proofs.Ytmmcigpbajlneaa
