/- frame.seal: the four bytes of the sum, as a string. -/
import Derived.Test.YtmmcigpbajlneaaDoorRSum
set_option linter.unusedVariables false
set_option linter.unusedSimpArgs false
namespace Go.Proofs.YtmmcigpbajlneaaDoor
open Go.RowKit
set_option maxRecDepth 100000

def partBytes (c i : Nat) : List Int := (le4 c).take i ++ List.replicate (4 - i) 0
theorem partBytes_length (c i : Nat) (h : i ≤ 4) : (partBytes c i).length = 4 := by simp [partBytes, le4]; omega
theorem partBytes_succ (c i : Nat) (h : i < 4) : partBytes c (i + 1) = (partBytes c i).set i ((c / 2 ^ (8 * i) % 256 : Nat) : Int) := by
  obtain rfl | rfl | rfl | rfl : i = 0 ∨ i = 1 ∨ i = 2 ∨ i = 3 := by omega
  · simp [partBytes, le4, List.replicate]
  · simp [partBytes, le4, List.replicate]
  · simp [partBytes, le4, List.replicate]
  · simp [partBytes, le4, List.replicate]

theorem crc_lt (l : List Int) : crc l < 4294967296 := by unfold crc; omega

theorem row_next {wr : World} {B T c i : Nat} {v : Int} (h : i < 4) (hr : wr.heap[B]? = some (.cells (bcells (partBytes c i)).toArray T (0, 0))) (hv : v = ((c / 2 ^ (8 * i) % 256 : Nat) : Int)) :
    (wr.setCell ⟨B, i, none⟩ (.int .u8 v)).heap[B]? = some (.cells (bcells (partBytes c (i + 1))).toArray T (0, 0)) := by
  rw [heap_setCell_row hr, partBytes_succ c i h, hv]
  simp [bcells]

theorem seal_calls (s : ByteArray) (w : World) (hs : s.size ≤ 9223372036854775807) (ht : TabAt w) :
    Calls Tryd.prog 21 #[.string s] w fun e w' => e = .returned (.string (strOfNums (seal4 (nums8 s)))) ∧ Below w.heap.size w w' := by
  have hc := crc_lt (nums8 s)
  have HE := Lib.hid (show seal4 (nums8 s) = partBytes (crc (nums8 s)) 4 from rfl)
  go_enter Tryd.func21, Tryd.ntmps21
  go_wp2_with fail
  refine (sum_calls s _ hs ht).mono ?_
  rintro e w' ⟨rfl, rfl⟩
  generalize crc (nums8 s) = c at *
  go_wp2_with fail
  go_loopw [8] (fun iv wr => ∃ i : Nat, i ≤ 4 ∧ iv = .int .i64 (i : Int) ∧ wr.heap[w'.heap.size]? = some (.cells (bcells (partBytes c i)).toArray 61 (0, 0)) ∧ Below w'.heap.size w' wr) (fun iv _ => 4 - (intOf iv).toNat)
  case atStart =>
    refine ⟨0, by omega, rfl, ?_, (Below.refl _ _).alloc (Nat.le_refl _) _⟩
    rw [heap_alloc_new]
    rfl
  case round =>
    obtain ⟨i, hi, rfl, hrow, hb⟩ := hrel
    by_cases hlt : i < 4
    · have hset := partBytes_succ c i hlt
      have hlen := partBytes_length c i hi
      have hf := cells_frozen hrow i
      have hcell := cells_cell hrow i
      obtain ⟨x, hx⟩ : ∃ x, (bcells (partBytes c i)).toArray[i]? = some x := ⟨_, Array.getElem?_eq_getElem (by simp [bcells_length, hlen, hlt])⟩
      rw [hx] at hcell
      have HSET := Lib.hid hset
      have HB := Lib.hid hb
      have HR := Lib.hid hrow
      clear hset hb hrow hlen hx hi
      obtain rfl | rfl | rfl | rfl : i = 0 ∨ i = 1 ∨ i = 2 ∨ i = 3 := by omega
      all_goals
        go_wp2_with fail
        refine ⟨⟨_ + 1, by omega, rfl, row_next (by omega) HR.out (by omega), HB.out.setCell (p := ⟨w'.heap.size, _, none⟩) (Nat.le_refl _) _⟩, by simp [intOf]⟩
    · obtain rfl : i = 4 := by omega
      have hconv : Sem.run Tryd.prog (convert 32 9 (.slice (some ⟨w'.heap.size, 0, none⟩) 4 4)) wr = .ok (.string (strOfNums (partBytes c 4))) wr := by
        refine run_convert_bytes_arg (P := Tryd.prog) _ 32 5 Tryd.underlying32 Tryd.underlying5 w'.heap.size 0 4 4 (partBytes c 4) (partBytes_length c 4 (Nat.le_refl _)) (fun q hq => ?_) 9 Tryd.underlying9
        rw [Nat.zero_add, cells_cell hrow, List.getElem?_toArray]
        simp [bcells, List.getElem?_eq_getElem (show q < (partBytes c 4).length by rw [partBytes_length c 4 (Nat.le_refl _)]; exact hq), List.getD_eq_getElem?_getD]
      have HB := Lib.hid hb
      clear hrow hb
      generalize hS : strOfNums (partBytes c 4) = S at *
      go_wp2
      go_ret
      refine ⟨?_, HB.out⟩
      rw [HE.out, hS]
      rfl
end Go.Proofs.YtmmcigpbajlneaaDoor
