/- frame.Sum and the reference's Sum: the sum of a string's bytes. -/
import Derived.Test.YtmmcigpbajlneaaDoorPut
import Derived.Test.YtmmcigpbajlneaaDoorGet
import Derived.Test.YtmmcigpbajlneaaDoorCrc
import Derived.LoopTactic
import Derived.Laws.BitsAllLaws
set_option linter.unusedVariables false
set_option linter.unusedSimpArgs false
namespace Go.Proofs.YtmmcigpbajlneaaDoor
open Go.RowKit
set_option maxRecDepth 100000

/-- The table of four bits lies where the program laid it. -/
def TabAt (w : World) : Prop := 1 ≤ w.heap.size ∧ ∀ j : Nat, j < 16 → w.cell? ⟨0, j, none⟩ = some (.int .u32 ((tabL.getD j 0 : Nat) : Int))
theorem TabAt.below {w w' : World} (h : TabAt w) {B : Nat} (hB : 1 ≤ B) (hb : Below B w w') : TabAt w' := by
  refine ⟨Nat.le_trans h.1 hb.size, fun j hj => ?_⟩
  rw [hb.cell (p := ⟨0, j, none⟩) (by show 0 < B; omega)]
  exact h.2 j hj

theorem reg_take_succ (s : ByteArray) (j : Nat) (h : j < s.size) : reg 4294967295 ((nums8 s).take (j + 1)) = zst (reg 4294967295 ((nums8 s).take j) ^^^ s[j].toNat) := by
  have h1 := nums8_get s j h
  obtain ⟨hj, e⟩ := List.getElem?_eq_some_iff.1 h1
  rw [List.take_succ_eq_append_getElem hj, reg_snoc, e]
  rfl

theorem u32_not (r : Nat) (h : r < 4294967296) : bits .xor .u32 4294967295 (r : Int) = ((4294967295 - r : Nat) : Int) := by
  have h1 := u32_xor_nat 4294967295 r (by decide) h
  have h2 : 4294967295 ^^^ r = 4294967295 - r := by
    apply Nat.eq_of_testBit_eq
    intro i
    rw [Nat.testBit_xor, show 4294967295 - r = 2 ^ 32 - (r + 1) by omega, Nat.testBit_two_pow_sub_succ h, show (4294967295 : Nat) = 2 ^ 32 - 1 from rfl, Nat.testBit_two_pow_sub_one]
    by_cases hi : i < 32
    · cases hb : r.testBit i <;> simp [hi]
    · have : r.testBit i = false := Nat.testBit_lt_two_pow (Nat.lt_of_lt_of_le h (Nat.pow_le_pow_right (n := 2) (by decide) (show 32 ≤ i by omega)))
      simp [hi, this]
  rw [h2] at h1
  exact h1

theorem sum_calls (s : ByteArray) (w : World) (hs : s.size ≤ 9223372036854775807) (ht : TabAt w) :
    Calls Tryd.prog 12 #[.string s] w fun e w' => e = .returned (.int .u32 (crc (nums8 s) : Nat)) ∧ w' = w := by
  have HT := Lib.hid ht.2
  clear ht
  go_enter Tryd.func12, Tryd.ntmps12
  go_wp2_with fail
  go_loop [3, 7] (fun rv iv => ∃ j r : Nat, j ≤ s.size ∧ iv = .int .i64 (j : Int) ∧ r = reg 4294967295 ((nums8 s).take j) ∧ rv = .int .u32 (r : Int)) (fun _ iv => s.size - (intOf iv).toNat)
  case atStart => exact ⟨0, _, by omega, rfl, rfl, rfl⟩
  case round =>
    obtain ⟨j, r, hj, rfl, hr, rfl⟩ := hrel
    have hrr := fun x hx => nums8_range s x (List.mem_of_mem_take (i := j) hx)
    have hrl := reg_lt ((nums8 s).take j) hrr (r := 4294967295) (by decide)
    rw [← hr] at hrl
    clear hrr
    by_cases hlt : j < s.size
    · have hx := nums8_get s j hlt
      have hx8 := (s[j]'hlt).toNat_lt
      have hnext := reg_take_succ s j hlt
      rw [← hr] at hnext
      obtain ⟨x, hxe⟩ : ∃ x : Nat, s[j].toNat = x := ⟨_, rfl⟩
      rw [hxe] at hx8 hnext
      have HN := Lib.hid hnext
      clear hx hr hnext
      have e1 := u32_xor_nat r x hrl (by omega)
      have hq := xor_lt32 hrl (show x < 4294967296 by omega)
      generalize r ^^^ x = q at *
      have hj1 : (0 : Int) ≤ (j : Int) := by omega
      have hj2 : (j : Int) < (s.size : Int) := by omega
      go_wp2_with fail
      go_loop [3, 16] (fun rv iv => ∃ i t : Nat, rv = .int .u32 (t : Int) ∧ iv = .int .i64 (i : Int) ∧ (i = 0 ∧ t = q ∨ i = 1 ∧ t = nst q ∨ i = 2 ∧ t = zst q)) (fun _ iv => 2 - (intOf iv).toNat)
      case atStart => exact ⟨0, q, rfl, rfl, .inl ⟨rfl, rfl⟩⟩
      case round =>
        obtain ⟨i, t, rfl, rfl, ht⟩ := hrel
        by_cases hi : i < 2
        · have htl : t < 4294967296 := by
            rcases ht with ⟨_, rfl⟩ | ⟨_, rfl⟩ | ⟨_, rfl⟩
            · exact hq
            · exact nst_lt hq
            · exact zst_lt hq
          have hnx := nst_tab t
          have hcell := HT.out (t % 16) (by omega)
          have hmask : bits .and .u32 (t : Int) 15 = ((t % 16 : Nat) : Int) := by
            have h := u32_and_nat t 15 htl (by decide)
            rw [show t &&& 15 = t % 16 from Nat.and_two_pow_sub_one_eq_mod t 4] at h
            exact h
          have htab : tabL.getD (t % 16) 0 < 4294967296 := by
            have : ∀ c : Nat, c < 16 → tabL.getD c 0 < 4294967296 := by decide
            exact this _ (by omega)
          generalize hT : tabL.getD (t % 16) 0 = T at *
          have hdiv : (t : Int) / 16 = ((t / 16 : Nat) : Int) := by omega
          have hxor := u32_xor_nat (t / 16) T (by omega) htab
          rw [← hnx] at hxor
          have hn : ∃ u, nst t = u := ⟨_, rfl⟩
          obtain ⟨u, hu⟩ := hn
          rw [hu] at hxor
          have hnext : Hid (i = 0 ∧ t = q ∨ i = 1 ∧ t = nst q ∨ i = 2 ∧ t = zst q) := ht
          have HU := Lib.hid hu
          clear ht hnx hu hT
          have hm0 : (0 : Int) ≤ ((t % 16 : Nat) : Int) := by omega
          have hm1 : ((t % 16 : Nat) : Int) < 16 := by omega
          generalize t % 16 = m at *
          generalize t / 16 = d at *
          go_wp2_with fail
          refine ⟨⟨i + 1, u, rfl, by go_num, ?_⟩, by simp [intOf]; omega⟩
          rcases hnext.out with ⟨rfl, rfl⟩ | ⟨rfl, rfl⟩ | ⟨rfl, _⟩
          · exact .inr (.inl ⟨rfl, HU.out.symm⟩)
          · exact .inr (.inr ⟨rfl, HU.out.symm⟩)
          · omega
        · obtain ⟨rfl, rfl⟩ : i = 2 ∧ t = zst q := by
            rcases ht with ⟨h, _⟩ | ⟨h, _⟩ | h
            · omega
            · omega
            · exact h
          go_wp2
          exact ⟨⟨j + 1, _, by omega, by go_num, HN.out.symm, rfl⟩, by simp [intOf]; omega⟩
    · obtain rfl : j = s.size := by omega
      have hfin : crc (nums8 s) = 4294967295 - r := by
        rw [hr, List.take_of_length_le (by rw [nums8_length]; omega)]
        rfl
      have HF := Lib.hid hfin
      clear hr hfin
      go_wp2
      go_ret
      refine ⟨?_, rfl⟩
      rw [HF.out, ← u32_not r hrl]
      rfl
end Go.Proofs.YtmmcigpbajlneaaDoor
