/- The chain grammar is a sound one. -/
import Derived.Test.YtnkpmogpmcggiaaLGreatB
import Derived.Test.YtnkpmogpmcggiaaLCall
import Derived.Test.YtnkpmogpmcggiaaLDouble
set_option linter.unusedVariables false
set_option linter.unusedSimpArgs false
namespace Go.Proofs.Ytnkpmogpmcggiaa
open Go.RowKit Go.Proofs.YtnkpmogpmcggiaaW.PrintWords Go.Proofs.YtnkpmogpmcggiaaW.PrintLast Go.Proofs.YtnkpmogpmcggiaaW.PrintMore

def gName (i : Nat) : ByteArray := strOfNums [(wrap64 (65 + (Int.tmod (i : Int) 26))) % 256, (wrap64 (97 + (wrap64 (Int.tdiv (i : Int) 26)))) % 256]
def gN (m : Nat) : List ByteArray := (List.range m).map gName
theorem gName_data (i : Nat) (h : i < 41) : (gName i).data.toList = [UInt8.ofNat (65 + i % 26), UInt8.ofNat (97 + i / 26)] := by
  have e1 : (wrap64 (65 + (Int.tmod (i : Int) 26))) % 256 = ((65 + i % 26 : Nat) : Int) := by
    rw [Int.tmod_eq_emod_of_nonneg (by omega), w64 (by omega) (by omega)]; omega
  have e2 : (wrap64 (97 + (wrap64 (Int.tdiv (i : Int) 26)))) % 256 = ((97 + i / 26 : Nat) : Int) := by
    clear e1
    rw [Int.tdiv_eq_ediv_of_nonneg (by omega), w64 (x := (i : Int) / 26) (by omega) (by omega), w64 (by omega) (by omega)]; omega
  unfold gName
  rw [e1, e2]
  rfl
theorem gName_inj {i j : Nat} (hi : i < 41) (hj : j < 41) (h : (gName i).data.toList = (gName j).data.toList) : i = j := by
  rw [gName_data i hi, gName_data j hj] at h
  simp only [List.cons.injEq, and_true] at h
  have h1 := congrArg UInt8.toNat h.1
  have h2 := congrArg UInt8.toNat h.2
  simp only [UInt8.toNat_ofNat'] at h1 h2
  omega
theorem gN_apart (m : Nat) (hm : m ≤ 41) : Apart (gN m) 65536 := by
  refine ⟨fun s hs => ?_, ?_⟩
  · simp only [gN, List.mem_map, List.mem_range] at hs
    obtain ⟨i, hi, rfl⟩ := hs
    have : (gName i).size = 2 := by
      have := congrArg List.length (gName_data i (by omega))
      show (gName i).data.size = 2
      rw [← Array.length_toList]
      exact this
    rw [this]
    exact ⟨by decide, by decide⟩
  · rw [gN, List.pairwise_map]
    refine List.Pairwise.imp_of_mem ?_ List.pairwise_lt_range
    intro a b ha hb hab h
    rw [List.mem_range] at ha hb
    have := gName_inj (by omega) (by omega) h
    omega
theorem gSound (m : Nat) (h0 : 10 ≤ m) (hm : m ≤ 41) : RightL 0 m (gN m) dT (gP m) [] := by
  have hl : (gN m).length = m := by simp [gN]
  have hp : (gP m).length = m := by simp [gP]
  refine ⟨⟨by omega, by omega, by omega, by omega, gN_apart m hm, by decide, apart_one _ _ (by decide), by omega, fun x hx => ?_, fun k hk => ?_⟩, by decide, by omega, by decide, rfl⟩
  · have h := gP_over m x hx
    rw [hl]
    refine ⟨h.1, h.2.1, ?_, ?_⟩
    · simp only [gP, List.mem_map, List.mem_range] at hx
      obtain ⟨i, hi, rfl⟩ := hx
      simp only
      split <;> simp
    · simp only [gP, List.mem_map, List.mem_range] at hx
      obtain ⟨i, hi, rfl⟩ := hx
      simp only
      have ht : dT.length = 1 := rfl
      split
      · rfl
      · simp [symOut, ht]
        omega
  · rw [rd_gP m k (by omega), rd_gP m (k + 1) (by omega)]
    simp only
    omega
end Go.Proofs.Ytnkpmogpmcggiaa
