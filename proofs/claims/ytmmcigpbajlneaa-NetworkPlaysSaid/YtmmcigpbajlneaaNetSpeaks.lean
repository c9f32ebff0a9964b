/- The network's first example, as the law's 'speaks' has it. -/
import Derived.Test.YtmmcigpbajlneaaNetE
set_option linter.unusedVariables false
set_option linter.unusedSimpArgs false
namespace Go.Proofs.Ytmmcigpbajlneaa
open Go.RowKit
set_option maxRecDepth 100000

theorem netAt_new (w : World) : NetAt (w.alloc (.cells #[.slice none 0 0] 26)) w.heap.size w.heap.size (.slice none 0 0) [] :=
  ⟨heap_alloc_new w _, Nat.le_refl _, World.ownsRow_nil _ _ _ _⟩

/-- What stays known from call to call of a network that the caller has made at block B or later. -/
theorem Now.next {w0 w w' : World} {B g : Nat} {v : Value} {l m : List Fr} (h : NetAt w B g v l) (h0 : Below B w0 w) (hn : Now w w' B g v m) : ∃ v', NetAt w' B g v' m ∧ Below B w0 w' ∧ Chg w w' g v ∧ RowOf w v v' := by
  obtain ⟨v', h1, h2, h3⟩ := hn
  exact ⟨v', h1, h2.below h h0 (by have := h.ge; have := h.lt; omega), h2, h3⟩

set_option maxHeartbeats 1000000 in
theorem speaks_calls (w : World) : Calls Try.prog 5 #[] w fun e w' => e = .returned (.bool true) ∧ Below w.heap.size w w' := by
  have hN := Lib.hid (netAt_new w)
  have hb0 := Lib.hid ((Below.refl w.heap.size w).alloc (Nat.le_refl _) (.cells #[.slice none 0 0] 26))
  go_enter Try.func5, Try.ntmps5
  go_wp2_with fail
  refine (send_calls 0 1 ⟨#[97]⟩ hN.out (by simp) (by decide)).mono ?_
  rintro e w1 ⟨rfl, hn1⟩
  obtain ⟨v1, hN1, hb1, _⟩ := Now.next hN.out hb0.out hn1
  replace hN1 := Lib.hid hN1
  replace hb1 := Lib.hid hb1
  clear hn1
  go_wp2_with fail
  refine (send_calls 0 1 ⟨#[98]⟩ hN1.out (by have := hb1.out.size; omega) (by decide)).mono ?_
  rintro e w2 ⟨rfl, hn2⟩
  obtain ⟨v2, hN2, hb2, _⟩ := Now.next hN1.out hb1.out hn2
  replace hN2 := Lib.hid hN2
  replace hb2 := Lib.hid hb2
  clear hn2
  go_wp2_with fail
  refine (double_calls 0 ⟨0, 1, ⟨#[97]⟩, false⟩ hN2.out (by have := hb2.out.size; omega) (by decide) (by rfl)).mono ?_
  rintro e w3 ⟨rfl, hn3⟩
  obtain ⟨v3, hN3, hb3, _⟩ := Now.next hN2.out hb2.out hn3
  replace hN3 := Lib.hid hN3
  replace hb3 := Lib.hid hb3
  clear hn3
  go_wp2_with fail
  have ht := take_some (-1) ⟨0, 1, ⟨#[97]⟩, false⟩ (hN3.out.alloc (.cells #[.int .i64 0, .int .i64 0, .string ⟨#[]⟩, .bool false] 35)) (by decide) (by rfl)
  unfold Fr.agg at ht
  refine ht.mono ?_
  clear ht
  rintro e w4 ⟨rfl, hn4⟩
  obtain ⟨v4, hN4, hb4, hc4, hr4⟩ := Now.next (hN3.out.alloc _) (hb3.out.alloc (by have := hb3.out.size; omega) _) hn4
  replace hN4 := Lib.hid hN4
  replace hb4 := Lib.hid hb4
  have hz3 := hN3.out.lt
  have kF : w4.heap[w3.heap.size]? = some (.cells #[.int .i64 0, .int .i64 0, .string ⟨#[]⟩, .bool false] 35 (0, 0)) :=
    (hc4.block _ (by simp) (by omega) (fun e => by have := hN3.out.own.lt _ e.symm; omega)).trans (heap_alloc_new _ _)
  have hz4 : w3.heap.size < w4.heap.size := (Array.getElem?_eq_some_iff.1 kF).1
  have a0 : w4.cell? ⟨w3.heap.size, 0, none⟩ = some (.int .i64 0) := cells_cell kF 0
  have a1 : w4.cell? ⟨w3.heap.size, 1, none⟩ = some (.int .i64 0) := cells_cell kF 1
  have a2 : w4.cell? ⟨w3.heap.size, 2, none⟩ = some (.string ⟨#[]⟩) := cells_cell kF 2
  have a3 : w4.cell? ⟨w3.heap.size, 3, none⟩ = some (.bool false) := cells_cell kF 3
  have z0 := cells_frozen kF 0
  have z1 := cells_frozen kF 1
  have z2 := cells_frozen kF 2
  have z3 := cells_frozen kF 3
  have hv4 : Hid (v4.ownBlock ≠ some w3.heap.size) := hr4.ne (by simp) (fun e => by have := hN3.out.own.lt _ e; omega)
  clear hn4 hc4 hr4 kF
  go_wp2_with fail
  refine (count_calls (B := w.heap.size) (v := v4) (l := [⟨0, 1, ⟨#[97]⟩, false⟩, ⟨0, 1, ⟨#[98]⟩, false⟩]) ?hcount).mono ?_
  case hcount =>
    have e1 : ∀ j, (⟨w3.heap.size, j, none⟩ : Addr).block ≠ w.heap.size := fun j => by simp; omega
    have e2 : ∀ j, some (⟨w3.heap.size, j, none⟩ : Addr).block ≠ v4.ownBlock := fun j e => hv4.out e.symm
    exact ((((show NetAt w4 _ _ v4 [⟨0, 1, ⟨#[97]⟩, false⟩, ⟨0, 1, ⟨#[98]⟩, false⟩] from hN4.out).setFar (e1 0) (e2 0) _).setFar (e1 1) (e2 1) _).setFar (e1 2) (e2 2) _).setFar (e1 3) (e2 3) _
  rintro e w5 ⟨rfl, rfl⟩
  go_wp2
  go_ret
  refine ⟨rfl, ?_⟩
  exact (((hb4.out.setCell (by simp; omega) _).setCell (by simp; omega) _).setCell (by simp; omega) _).setCell (by simp; omega) _
end Go.Proofs.Ytmmcigpbajlneaa
