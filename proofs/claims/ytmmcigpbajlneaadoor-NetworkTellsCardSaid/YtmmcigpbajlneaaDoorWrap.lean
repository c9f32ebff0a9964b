/- frame.Wrap and the reference's Wrap. -/
import Derived.Test.YtmmcigpbajlneaaDoorWrapL
set_option linter.unusedVariables false
set_option linter.unusedSimpArgs false
namespace Go.Proofs.YtmmcigpbajlneaaDoor
open Go.RowKit
set_option maxRecDepth 100000

theorem wrap_calls (s : ByteArray) (w : World) (hs : s.size ≤ 1099511627776) (ht : TabAt w) :
    Calls Tryd.prog 10 #[.string s] w fun e w' => e = .returned (.string (strOfNums (wrapL (nums8 s)))) ∧ Below w.heap.size w w' := by
  by_cases hbig : 1048576 < s.size
  · have e : strOfNums (wrapL (nums8 s)) = ⟨#[]⟩ := by unfold wrapL; rw [nums8_length, if_pos hbig]; rfl
    rw [e]
    go_enter Tryd.func10, Tryd.ntmps10
    go_wp2
    go_ret
    exact ⟨rfl, Below.refl _ _⟩
  · have hlen := putL_length (s.size : Int)
    have hsz : (strOfNums (putL (s.size : Int))).size ≤ 8 := by rw [strOfNums_size]; exact hlen
    have hn : nums8 (strOfNums (putL (s.size : Int)) ++ s) = putL (s.size : Int) ++ nums8 s := by rw [nums8_append, nums8_strOfNums _ (putL_range _)]
    have hfin : strOfNums (wrapL (nums8 s)) = (strOfNums (putL (s.size : Int)) ++ s) ++ strOfNums (seal4 (nums8 (strOfNums (putL (s.size : Int)) ++ s))) := by
      unfold wrapL
      rw [nums8_length, if_neg hbig, hn, strOfNums_append, strOfNums_append, strOfNums_nums8]
    generalize strOfNums (wrapL (nums8 s)) = R at *
    generalize hS : strOfNums (putL (s.size : Int)) = S at *
    have HS := Lib.hid hS
    have HF := Lib.hid hfin
    clear hfin hn hlen hS
    go_enter Tryd.func10, Tryd.ntmps10
    go_wp2_with fail
    refine (put_calls _ _).mono ?_
    rintro e w1 ⟨rfl, hb1⟩
    rw [HS.out]
    have hss : (S ++ s).size = S.size + s.size := ByteArray.size_append
    have ht1 := ht.below ht.1 hb1
    go_wp2_with fail
    refine (seal_calls (S ++ s) w1 (by omega) ht1).mono ?_
    rintro e w2 ⟨rfl, hb2⟩
    have h4 : (strOfNums (seal4 (nums8 (S ++ s)))).size = 4 := by rw [strOfNums_size, seal4_length]
    have hfin := HF.out
    generalize strOfNums (seal4 (nums8 (S ++ s))) = F at *
    have HF2 := Lib.hid hfin
    clear HF hfin
    have hss2 : (S ++ s ++ F).size = (S ++ s).size + F.size := ByteArray.size_append
    go_wp2
    go_ret
    exact ⟨by rw [HF2.out]; rfl, hb1.trans (hb2.mono hb1.size)⟩

theorem rwrap_calls (s : ByteArray) (w : World) (hs : s.size ≤ 1099511627776) :
    Calls Tryd.prog 14 #[.string s] w fun e w' => e = .returned (.string (strOfNums (wrapL (nums8 s)))) ∧ Below w.heap.size w w' := by
  by_cases hbig : 1048576 < s.size
  · have e : strOfNums (wrapL (nums8 s)) = ⟨#[]⟩ := by unfold wrapL; rw [nums8_length, if_pos hbig]; rfl
    rw [e]
    go_enter Tryd.func14, Tryd.ntmps14
    go_wp2
    go_ret
    exact ⟨rfl, Below.refl _ _⟩
  · have hlen := putL_length (s.size : Int)
    have hsz : (strOfNums (putL (s.size : Int))).size ≤ 8 := by rw [strOfNums_size]; exact hlen
    have hn : nums8 (strOfNums (putL (s.size : Int)) ++ s) = putL (s.size : Int) ++ nums8 s := by rw [nums8_append, nums8_strOfNums _ (putL_range _)]
    have hfin : strOfNums (wrapL (nums8 s)) = (strOfNums (putL (s.size : Int)) ++ s) ++ strOfNums (seal4 (nums8 (strOfNums (putL (s.size : Int)) ++ s))) := by
      unfold wrapL
      rw [nums8_length, if_neg hbig, hn, strOfNums_append, strOfNums_append, strOfNums_nums8]
    generalize strOfNums (wrapL (nums8 s)) = R at *
    generalize hS : strOfNums (putL (s.size : Int)) = S at *
    have HS := Lib.hid hS
    have HF := Lib.hid hfin
    clear hfin hn hlen hS
    go_enter Tryd.func14, Tryd.ntmps14
    go_wp2_with fail
    refine (rput_calls _ _).mono ?_
    rintro e w1 ⟨rfl, hb1⟩
    rw [HS.out]
    have hss : (S ++ s).size = S.size + s.size := ByteArray.size_append
    go_wp2_with fail
    refine (rsum_calls (S ++ s) w1 (by omega)).mono ?_
    rintro e w2 ⟨rfl, rfl⟩
    have hc := crc_lt (nums8 (S ++ s))
    have hfin := HF.out
    have hF : seal4 (nums8 (S ++ s)) = le4 (crc (nums8 (S ++ s))) := rfl
    rw [hF] at hfin
    clear hF HF
    generalize crc (nums8 (S ++ s)) = c at *
    generalize S ++ s = T at *
    have HF := Lib.hid hfin
    clear hfin
    go_wp2_with fail
    go_loopw [3, 4, 5] (fun sv cv iv wr => ∃ i : Nat, i ≤ 4 ∧ iv = .int .i64 (i : Int) ∧ cv = .int .u32 ((c / 256 ^ i : Nat) : Int) ∧ sv = .string (T ++ strOfNums ((le4 c).take i)) ∧ Below w.heap.size w wr) (fun _ _ iv _ => 4 - (intOf iv).toNat)
    case atStart => exact ⟨0, by omega, rfl, by simp, by rw [List.take_zero, show strOfNums [] = ByteArray.empty from rfl, ByteArray.append_empty], hb1⟩
    case round =>
      obtain ⟨i, hi, rfl, rfl, rfl, hb⟩ := hrel
      have HB := Lib.hid hb
      have hzz := hb.size
      clear hb hb1
      by_cases hlt : i < 4
      · have hnext : (le4 c).take (i + 1) = (le4 c).take i ++ [((c / 256 ^ i % 256 : Nat) : Int)] := by
          obtain rfl | rfl | rfl | rfl : i = 0 ∨ i = 1 ∨ i = 2 ∨ i = 3 := by omega
          · simp [le4]
          · simp [le4]
          · simp [le4]
          · simp [le4]
        have hdec : c / 256 ^ (i + 1) = c / 256 ^ i / 256 := by rw [Nat.pow_succ, Nat.div_div_eq_div_mul]
        have hle : c / 256 ^ i < 4294967296 := Nat.lt_of_le_of_lt (Nat.div_le_self _ _) hc
        generalize c / 256 ^ i = y at *
        have hts : (strOfNums ((le4 c).take i)).size ≤ 4 := by rw [strOfNums_size]; simp [le4]; omega
        have hts2 : (T ++ strOfNums ((le4 c).take i)).size = T.size + (strOfNums ((le4 c).take i)).size := ByteArray.size_append
        have HN := Lib.hid hnext
        have HD := Lib.hid hdec
        clear hnext hdec
        generalize hU : T ++ strOfNums ((le4 c).take i) = U at *
        have HU := Lib.hid hU
        clear hU
        have kd := fun x => run_one_byte wr x
        have k1 := fun x : Int => (show (strOfNums [x]).size = 1 from strOfNums_size [x])
        go_wp2_with fail
        refine ⟨⟨i + 1, by omega, by go_num, ?_, ?_, HB.out.alloc hzz _⟩, by simp [intOf]; omega⟩
        · rw [HD.out]; simp
        · rw [HN.out, strOfNums_append, ← ByteArray.append_assoc, HU.out]; simp
      · obtain rfl : i = 4 := by omega
        have hz : (le4 c).take 4 = le4 c := rfl
        rw [hz]
        have hfin := HF.out
        generalize T ++ strOfNums (le4 c) = U at *
        have HF2 := Lib.hid hfin
        clear hfin
        go_wp2
        go_ret
        exact ⟨by rw [HF2.out]; rfl, HB.out⟩
end Go.Proofs.YtmmcigpbajlneaaDoor
