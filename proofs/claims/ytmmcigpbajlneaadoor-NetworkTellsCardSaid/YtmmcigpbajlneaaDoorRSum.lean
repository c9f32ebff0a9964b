/- The reference's Sum: the sum of a string's bytes, bit by bit. -/
import Derived.Test.YtmmcigpbajlneaaDoorSum
set_option linter.unusedVariables false
set_option linter.unusedSimpArgs false
namespace Go.Proofs.YtmmcigpbajlneaaDoor
open Go.RowKit
set_option maxRecDepth 100000

def bstk : Nat → Nat → Nat
  | 0, q => q
  | k + 1, q => bst (bstk k q)
theorem bstk_8 (q : Nat) : bstk 8 q = zst q := rfl

theorem rsum_calls (s : ByteArray) (w : World) (hs : s.size ≤ 9223372036854775807) :
    Calls Tryd.prog 13 #[.string s] w fun e w' => e = .returned (.int .u32 (crc (nums8 s) : Nat)) ∧ w' = w := by
  go_enter Tryd.func13, Tryd.ntmps13
  go_wp2_with fail
  go_loop [3, 4] (fun rv iv => ∃ j r : Nat, j ≤ s.size ∧ iv = .int .i64 (j : Int) ∧ r = reg 4294967295 ((nums8 s).take j) ∧ rv = .int .u32 (r : Int)) (fun _ iv => s.size - (intOf iv).toNat)
  case atStart => exact ⟨0, _, by omega, rfl, rfl, rfl⟩
  case round =>
    obtain ⟨j, r, hj, rfl, hr, rfl⟩ := hrel
    have hrr := fun x hx => nums8_range s x (List.mem_of_mem_take (i := j) hx)
    have hrl := reg_lt ((nums8 s).take j) hrr (r := 4294967295) (by decide)
    rw [← hr] at hrl
    clear hrr
    by_cases hlt : j < s.size
    · have hx := nums8_get s j hlt
      have hx8 := (s[j]'hlt).toNat_lt
      have hnext := reg_take_succ s j hlt
      rw [← hr] at hnext
      obtain ⟨x, hxe⟩ : ∃ x : Nat, s[j].toNat = x := ⟨_, rfl⟩
      rw [hxe] at hx8 hnext
      have HN := Lib.hid hnext
      clear hx hr hnext
      have hj1 : (0 : Int) ≤ (j : Int) := by omega
      have hj2 : (j : Int) < (s.size : Int) := by omega
      go_wp2_with fail
      go_loop [3, 5] (fun rv bv => ∃ b q : Nat, b ≤ 8 ∧ bv = .int .i64 (b : Int) ∧ rv = .int .u32 (q : Int) ∧ q < 4294967296 ∧ q ^^^ (x / 2 ^ b) = bstk b (r ^^^ x)) (fun _ bv => 8 - (intOf bv).toNat)
      case atStart => exact ⟨0, r, by omega, rfl, rfl, hrl, by simp [bstk]⟩
      case round =>
        obtain ⟨b, q, hb, rfl, rfl, hq, hk⟩ := hrel
        by_cases hb8 : b < 8
        · have hstep := bit_step q x b hq
          rw [hk] at hstep
          have hxb : (x : Int) / 2 ^ b = ((x / 2 ^ b : Nat) : Int) := by simp
          have hy : x / 2 ^ b < 4294967296 := Nat.lt_of_le_of_lt (Nat.div_le_self _ _) (by omega)
          have hx32 : (x : Int) % 4294967296 = x := by omega
          have hxor := u32_xor_nat q (x / 2 ^ b) hq hy
          generalize x / 2 ^ b = y at *
          generalize hT : q ^^^ y = t at *
          have hlt2 := xor_lt32 hq hy
          rw [hT] at hlt2
          have hpol := u32_xor_nat (q / 2) 3988292384 (by omega) (by decide)
          have hpl := xor_lt32 (show q / 2 < 4294967296 by omega) (show 3988292384 < 4294967296 by decide)
          generalize hP : q / 2 ^^^ 3988292384 = p at *
          have HS := Lib.hid hstep
          have HK := Lib.hid hk
          have HP := Lib.hid hP
          clear hstep hk hT
          have hb64 : (b : Int) % 18446744073709551616 = b := by omega
          by_cases ht : t % 2 = 1
          · have ht1 : (t : Int) % 2 = 1 := by omega
            go_wp2_with fail
            refine ⟨⟨b + 1, p, by omega, by go_num, ?_, hpl, ?_⟩, by simp [intOf]; omega⟩
            · rw [← hpol]; simp
            · have := HS.out
              rw [← HK.out, if_pos ht, HP.out] at this
              rw [this, bstk, HK.out]
          · have ht1 : (t : Int) % 2 = 0 := by omega
            go_wp2_with fail
            refine ⟨⟨b + 1, q / 2, by omega, by go_num, by simp, by omega, ?_⟩, by simp [intOf]; omega⟩
            have := HS.out
            rw [← HK.out, if_neg ht, Nat.xor_zero] at this
            rw [this, bstk, HK.out]
        · obtain rfl : b = 8 := by omega
          rw [show (2 : Nat) ^ 8 = 256 from rfl, Nat.div_eq_of_lt hx8, Nat.xor_zero, bstk_8] at hk
          have HK := Lib.hid hk
          clear hk
          go_wp2
          exact ⟨⟨j + 1, _, by omega, by go_num, (HN.out.trans HK.out.symm).symm, rfl⟩, by simp [intOf]; omega⟩
    · obtain rfl : j = s.size := by omega
      have hfin : crc (nums8 s) = 4294967295 - r := by
        rw [hr, List.take_of_length_le (by rw [nums8_length]; omega)]
        rfl
      have hsub : (4294967295 : Int) - r = ((4294967295 - r : Nat) : Int) := by omega
      have HF := Lib.hid hfin
      clear hr hfin
      go_wp2
      go_ret
      refine ⟨?_, rfl⟩
      rw [HF.out]
      rfl
end Go.Proofs.YtmmcigpbajlneaaDoor
