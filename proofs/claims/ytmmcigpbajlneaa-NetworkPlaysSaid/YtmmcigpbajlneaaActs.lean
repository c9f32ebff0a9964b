/- The acts of a law, as they lie in memory. -/
import Derived.Test.YtmmcigpbajlneaaChecked
import Derived.WalkKit
import Derived.Lib.Hide
import Derived.Deep.Slices
import Derived.Deep.Fields
import Derived.ChangeSame
set_option linter.unusedVariables false
set_option linter.unusedSimpArgs false
namespace Go.Proofs.Ytmmcigpbajlneaa
open Go.RowKit

theorem add_block' (a : Addr) (k : Nat) : (a.add k).block = a.block := by unfold Addr.add; split <;> rfl
/-- An act. -/
structure Actv where
  what : Int
  i : Int
  pos : Int
  by_ : Int
  text : ByteArray

/-- n acts lie in memory. -/
structure ActsAt (w : World) (A : Option Addr) (n : Nat) (f : Nat → Actv) : Prop where
  small : n ≤ 9223372036854775807
  at_ : ∀ i, i < n → ∃ a, A = some a ∧ a.block < w.heap.size ∧ w.cell? (a.add (i * 5)) = some (.int .i64 (f i).what) ∧ w.cell? (a.add (i * 5 + 1)) = some (.int .i64 (f i).i) ∧ w.cell? (a.add (i * 5 + 2)) = some (.int .i64 (f i).pos) ∧
    w.cell? (a.add (i * 5 + 3)) = some (.int .u32 (f i).by_) ∧ w.cell? (a.add (i * 5 + 4)) = some (.string (f i).text) ∧ 0 ≤ (f i).by_ ∧ (f i).by_ ≤ 4294967295 ∧ (f i).text.size ≤ maxLen ∧
    -9223372036854775808 ≤ (f i).what ∧ (f i).what ≤ 9223372036854775807
theorem ActsAt.below {w w' : World} {A : Option Addr} {n : Nat} {f : Nat → Actv} (h : ActsAt w A n f) (hb : Below w.heap.size w w') : ActsAt w' A n f := by
  refine ⟨h.small, fun i hi => ?_⟩
  obtain ⟨a, h1, h2, h3, h4, h5, h6, h7, h8⟩ := h.at_ i hi
  refine ⟨a, h1, Nat.lt_of_lt_of_le h2 hb.size, ?_, ?_, ?_, ?_, ?_, h8⟩
  · rw [hb.cell (p := a.add (i * 5)) (by rw [add_block']; exact h2)]; exact h3
  · rw [hb.cell (p := a.add (i * 5 + 1)) (by rw [add_block']; exact h2)]; exact h4
  · rw [hb.cell (p := a.add (i * 5 + 2)) (by rw [add_block']; exact h2)]; exact h5
  · rw [hb.cell (p := a.add (i * 5 + 3)) (by rw [add_block']; exact h2)]; exact h6
  · rw [hb.cell (p := a.add (i * 5 + 4)) (by rw [add_block']; exact h2)]; exact h7
theorem add_field (a : Addr) (i j : Nat) (hj : 0 < j) : a.add (i * 5 + j) = ⟨(a.add (i * 5)).block, (a.add (i * 5)).off + j, none⟩ := by
  unfold Addr.add
  rw [if_neg (by omega)]
  split
  · rename_i h; rw [h, Nat.zero_add]
  · simp [Nat.add_assoc]
end Go.Proofs.Ytmmcigpbajlneaa
