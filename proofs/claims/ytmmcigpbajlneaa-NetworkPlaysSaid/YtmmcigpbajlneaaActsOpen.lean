/- An argument of acts, opened to the cells that hold them. -/
import Derived.Test.YtmmcigpbajlneaaActs
import Derived.DataShut
import Derived.WideShapes
set_option linter.unusedVariables false
set_option linter.unusedSimpArgs false
namespace Go.Proofs.Ytmmcigpbajlneaa
open Go.ChangeShapes Go.WideShapes Go.Deep Go.RowKit

theorem wf_bounds {k : IntKind} {n : Int} (h : (Lit.int k n).wf = true) : k.min ≤ n ∧ n ≤ k.max := by simpa [Lit.wf] using h

theorem cell_block_lt {w : World} {p : Addr} {v : Value} (h : w.cell? p = some v) : p.block < w.heap.size := by
  rcases Nat.lt_or_ge p.block w.heap.size with hz | hz
  · exact hz
  · exfalso
    have hn : w.heap[p.block]? = none := by rw [Array.getElem?_eq_none_iff]; exact hz
    simp [World.cell?, hn] at h

theorem acts_open {H : Type} {enc : TypeId × Value → H} {W : World} {v : Value} {d : DataW H} {ps : List MemPlace} {b0 : Nat} {r : Reach}
    (hv : Value.okWide Try.prog W r b0 22 v) (h : DataW.Trod enc Try.prog W 0 (fun _ => true) true 22 v d ps) :
    ∃ (A : Option Addr) (n c : Nat) (f : Nat → Actv), v = .slice A n c ∧ ActsAt W A n f := by
  obtain ⟨A, n, c, rfl⟩ := okWide_slice Try.underlying22 hv
  obtain ⟨fuel, hf⟩ := h
  rcases open_slice Try.underlying22 hf with ⟨h0, _⟩ | ⟨a, len, cap, m, k, D, Pl, hcs, _, hl, hm, hmm, _, hi⟩
  · simp [Value.cells] at h0
    obtain ⟨rfl, rfl, rfl⟩ := h0
    exact ⟨none, 0, 0, fun _ => ⟨0, 0, 0, 0, ⟨#[]⟩⟩, rfl, by decide, fun i hi => absurd hi (Nat.not_lt_zero i)⟩
  · simp [Value.cells] at hcs
    obtain ⟨rfl, rfl, rfl⟩ := hcs
    have hC : Try.prog.cellsOf 33 = 5 := by kernel_rfl
    have hC3 : Try.prog.cellsOf 3 = 1 := by kernel_rfl
    have hC4 : Try.prog.cellsOf 31 = 1 := by kernel_rfl
    have hC5 : Try.prog.cellsOf 9 = 1 := by kernel_rfl
    rw [hC] at hi
    have hnm : n ≤ m := by rw [hmm]; split <;> omega
    have key : ∀ i, i < n → ∃ x : Actv, W.cell? (a.add (i * 5)) = some (.int .i64 x.what) ∧ W.cell? (a.add (i * 5 + 1)) = some (.int .i64 x.i) ∧ W.cell? (a.add (i * 5 + 2)) = some (.int .i64 x.pos) ∧
        W.cell? (a.add (i * 5 + 3)) = some (.int .u32 x.by_) ∧ W.cell? (a.add (i * 5 + 4)) = some (.string x.text) ∧ 0 ≤ x.by_ ∧ x.by_ ≤ 4294967295 ∧ x.text.size ≤ maxLen ∧ -9223372036854775808 ≤ x.what ∧ x.what ≤ 9223372036854775807 := by
      intro i hin
      obtain ⟨cs', hc, ht⟩ := hi i (by omega)
      obtain ⟨ys, n', _, _, _, _, hfd⟩ := DataW.trod_struct Try.underlying33 ht
      obtain ⟨_, hcl, hat⟩ := World.cells?_some hc
      match cs', hcl, hat, hfd with
      | [c0, c1, c2, c3, c4], _, hat, hfd =>
        have g0 : DataW.trod enc Try.prog W 0 (fun _ => true) true n' 3 (List.take (Try.prog.cellsOf 3) [c0, c1, c2, c3, c4]) = ys[0]? := hfd 0 _ rfl
        rw [hC3, show List.take 1 [c0, c1, c2, c3, c4] = [c0] from rfl] at g0
        have g1 : DataW.trod enc Try.prog W 0 (fun _ => true) true n' 3 (List.take (Try.prog.cellsOf 3) [c1, c2, c3, c4]) = ys[1]? := hfd 1 _ rfl
        rw [hC3, show List.take 1 [c1, c2, c3, c4] = [c1] from rfl] at g1
        have g2 : DataW.trod enc Try.prog W 0 (fun _ => true) true n' 3 (List.take (Try.prog.cellsOf 3) [c2, c3, c4]) = ys[2]? := hfd 2 _ rfl
        rw [hC3, show List.take 1 [c2, c3, c4] = [c2] from rfl] at g2
        have g3 : DataW.trod enc Try.prog W 0 (fun _ => true) true n' 31 (List.take (Try.prog.cellsOf 31) [c3, c4]) = ys[3]? := hfd 3 _ rfl
        rw [hC4, show List.take 1 [c3, c4] = [c3] from rfl] at g3
        have g4 : DataW.trod enc Try.prog W 0 (fun _ => true) true n' 9 (List.take (Try.prog.cellsOf 9) [c4]) = ys[4]? := hfd 4 _ rfl
        rw [hC5, show List.take 1 [c4] = [c4] from rfl] at g4
        have hlen : ys.length = 5 := by assumption
        obtain ⟨y0, e0⟩ : ∃ y, ys[0]? = some y := ⟨_, List.getElem?_eq_getElem (by omega)⟩
        obtain ⟨y1, e1⟩ : ∃ y, ys[1]? = some y := ⟨_, List.getElem?_eq_getElem (by omega)⟩
        obtain ⟨y2, e2⟩ : ∃ y, ys[2]? = some y := ⟨_, List.getElem?_eq_getElem (by omega)⟩
        obtain ⟨y3, e3⟩ : ∃ y, ys[3]? = some y := ⟨_, List.getElem?_eq_getElem (by omega)⟩
        obtain ⟨y4, e4⟩ : ∃ y, ys[4]? = some y := ⟨_, List.getElem?_eq_getElem (by omega)⟩
        obtain ⟨x0, q0, _, w0⟩ := DataW.trod_int Try.underlying3 (g0.trans e0)
        obtain ⟨x1, q1, _, w1⟩ := DataW.trod_int Try.underlying3 (g1.trans e1)
        obtain ⟨x2, q2, _, w2⟩ := DataW.trod_int Try.underlying3 (g2.trans e2)
        obtain ⟨x3, q3, _, w3⟩ := DataW.trod_int Try.underlying31 (g3.trans e3)
        obtain ⟨x4, q4, _, w4⟩ := DataW.trod_string Try.underlying9 (g4.trans e4)
        simp only [List.cons.injEq, and_true] at q0 q1 q2 q3 q4
        subst q0 q1 q2 q3 q4
        obtain ⟨b3, b4⟩ : 0 ≤ x3 ∧ x3 ≤ 4294967295 := wf_bounds w3
        obtain ⟨b5, b6⟩ : -9223372036854775808 ≤ x0 ∧ x0 ≤ 9223372036854775807 := wf_bounds w0
        have a0 := hat 0 (by decide)
        have a1 := hat 1 (by decide)
        have a2 := hat 2 (by decide)
        have a3 := hat 3 (by decide)
        have a4 := hat 4 (by decide)
        rw [Deep.add_add] at a0 a1 a2 a3 a4
        exact ⟨⟨x0, x1, x2, x3, x4⟩, a0, a1, a2, a3, a4, b3, b4, w4, b5, b6⟩
    have key2 : ∀ i, ∃ x : Actv, i < n → W.cell? (a.add (i * 5)) = some (.int .i64 x.what) ∧ W.cell? (a.add (i * 5 + 1)) = some (.int .i64 x.i) ∧ W.cell? (a.add (i * 5 + 2)) = some (.int .i64 x.pos) ∧ W.cell? (a.add (i * 5 + 3)) = some (.int .u32 x.by_) ∧ W.cell? (a.add (i * 5 + 4)) = some (.string x.text) ∧ 0 ≤ x.by_ ∧ x.by_ ≤ 4294967295 ∧ x.text.size ≤ maxLen ∧ -9223372036854775808 ≤ x.what ∧ x.what ≤ 9223372036854775807 := by
      intro i
      by_cases h : i < n
      · obtain ⟨x, hx⟩ := key i h
        exact ⟨x, fun _ => hx⟩
      · exact ⟨⟨0, 0, 0, 0, ⟨#[]⟩⟩, fun h' => absurd h' h⟩
    obtain ⟨f, hf⟩ := Classical.axiomOfChoice key2
    refine ⟨some a, n, c, f, rfl, by have : maxLen = 9223372036854775807 := rfl; omega, fun i hi => ⟨a, rfl, ?_, hf i hi⟩⟩
    have := cell_block_lt (hf i hi).1
    rw [add_block'] at this
    exact this
end Go.Proofs.Ytmmcigpbajlneaa
