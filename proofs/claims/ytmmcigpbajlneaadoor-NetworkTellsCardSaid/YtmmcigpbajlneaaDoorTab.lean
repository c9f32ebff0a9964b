/- The table that the program lays, out of the row's condition. -/
import Derived.Test.YtmmcigpbajlneaaDoorRows
import Derived.Test.YtmmcigpbajlneaaDoorSum
import Derived.ProofKit
import Derived.LaidMore
import Derived.OpenShut
import Derived.Stop.Joined
set_option linter.unusedVariables false
set_option linter.unusedSimpArgs false
namespace Go.Proofs.YtmmcigpbajlneaaDoor
open Go.ChangeShapes Go.WideShapes Go.ChangeAt Go.RowKit

def laidTab {H : Type} : List (String × DataW H) := [("primer/frame.halves", Rows.laid_primer_frame_halves)]
theorem gHalves : Tryd.prog.globalNamed "primer/frame.halves" = some 0 := by kernel_rfl
theorem tHalves : (Tryd.prog.globals[0]?).map (·.type) = some 53 := by kernel_rfl

set_option maxRecDepth 100000 in
theorem tabAt_of_laid {W : World} (h : laidMetH Tryd.prog laidTab W) : TabAt W := by
  unfold laidTab at h
  rw [MakeChecks.laidMetH_plain _ _ _ (by kernel_rfl)] at h
  obtain ⟨ps, ⟨g0, t0, cs0, f0, p0, q0, hg0, ht0, hv0, hd0, _, _⟩, _, _⟩ := h
  obtain rfl := Option.some.inj (gHalves.symm.trans hg0)
  obtain rfl := Option.some.inj (tHalves.symm.trans ht0)
  obtain ⟨xs, m1, rfl, hx1, hlen, hn, hel⟩ := DataW.trod_array Tryd.underlying53 hd0
  have c3 : Tryd.prog.cellsOf 27 = 1 := by kernel_rfl
  have key : ∀ j : Nat, j < 16 → W.cell? ⟨0, j, none⟩ = some (.int .u32 ((tabL.getD j 0 : Nat) : Int)) := by
    intro j hj
    have h0 := hel j (by omega)
    rw [c3] at h0
    obtain ⟨x, hx⟩ : ∃ x, xs[j]? = some x := ⟨_, List.getElem?_eq_getElem (by omega)⟩
    rw [hx] at h0
    obtain ⟨k, e1, e2, _⟩ := DataW.trod_int Tryd.underlying27 h0
    have hmap : xs.map (·.1) = tabL.map (fun n : Nat => (DataW.lit (.int .u32 (n : Int)) : DataW Unit)) := by
      have := congrArg Prod.fst hx1
      simp only [Rows.laid_primer_frame_halves, DataW.agg.injEq] at this
      rw [← this]
      rfl
    have hk : x.1 = .lit (.int .u32 ((tabL.getD j 0 : Nat) : Int)) := by
      have h1 : (xs.map (·.1))[j]? = some x.1 := by rw [List.getElem?_map, hx]; rfl
      rw [hmap, List.getElem?_map, List.getElem?_eq_getElem (show j < tabL.length from hj)] at h1
      simp only [Option.map_some, Option.some.injEq] at h1
      rw [← h1, List.getD_eq_getElem?_getD, List.getElem?_eq_getElem (show j < tabL.length from hj)]
      rfl
    have hc := World.var?_cell hg0 hv0 j
    have hc2 : cs0[j]? = some (.int .u32 k) := by
      rw [← Array.getElem?_toList]
      have : (List.take 1 (List.drop (j * 1) cs0.toList))[0]? = cs0.toList[j]? := by
        rw [List.getElem?_take, if_pos (by decide), List.getElem?_drop, Nat.mul_one, Nat.add_zero]
      rw [← this, e1]
      rfl
    have hkk : k = ((tabL.getD j 0 : Nat) : Int) := by
      rw [e2] at hk
      simpa using hk
    rw [hc, hc2, hkk]
  refine ⟨?_, key⟩
  have h0 := key 0 (by decide)
  rcases Nat.eq_zero_or_pos W.heap.size with hz | hz
  · exfalso
    have hn : W.heap[0]? = none := by simp [hz]
    simp [World.cell?, hn] at h0
  · exact hz

/-- The door's own heap meets the condition. -/
theorem door_met (os : Os) (args : Array Value) : laidMetH Tryd.prog laidTab ((World.doorLaid Tryd.prog 14 os).forCall (fun _ _ => 0) ⟨#[], args, []⟩).memory :=
  laidMetH_of_parts3 (fuel := 8) (laidMet_of_run' 8 (by kernel_rfl) (by kernel_rfl)) (by kernel_rfl) (by kernel_rfl)
end Go.Proofs.YtmmcigpbajlneaaDoor
