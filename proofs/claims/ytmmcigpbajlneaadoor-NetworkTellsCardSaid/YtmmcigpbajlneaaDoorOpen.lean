/- frame.Open and the reference's Open. -/
import Derived.Test.YtmmcigpbajlneaaDoorWrap
set_option linter.unusedVariables false
set_option linter.unusedSimpArgs false
namespace Go.Proofs.YtmmcigpbajlneaaDoor
open Go.RowKit
set_option maxRecDepth 100000

theorem openL_of (s : ByteArray) {n k er : Int} (hg : getL (nums8 s) = (n, k, er)) : openL (nums8 s) =
    if er ≠ 0 then ([], er) else if n < 0 then ([], 2) else if 1048576 < n then ([], 6) else if (s.size : Int) < k + n + 4 then ([], 3) else if k + n + 4 < (s.size : Int) then ([], 4)
    else if (nums8 s).drop (k + n).toNat ≠ seal4 ((nums8 s).take (k + n).toNat) then ([], 5) else (((nums8 s).drop k.toNat).take n.toNat, 0) := by
  unfold openL
  rw [hg, nums8_length]
theorem ret_tup2 {b : ByteArray} {e : Int} {l : List Int} {r : List Int × Int} (h : r = (l, e)) (hb : b = strOfNums l) : Ending.returned (.tuple #[.string b, .int .i64 e]) = Ending.returned (tup2 r) := by rw [h, hb]; rfl
theorem drop_str (s : ByteArray) (m : Nat) : nums8 (s.extract m s.size) = (nums8 s).drop m := by
  rw [nums8_extract, List.take_of_length_le]
  rw [List.length_drop, nums8_length]
  exact Nat.le_refl _
theorem cut_str (s : ByteArray) (k n : Nat) : s.extract k (k + n) = strOfNums (((nums8 s).drop k).take n) := by
  rw [← strOfNums_nums8 (s.extract k (k + n)), nums8_extract, Nat.add_sub_cancel_left]
theorem seal_cmp (s : ByteArray) (m : Nat) :
    (!(s.extract m s.size).toList == (strOfNums (seal4 (nums8 (s.extract 0 m)))).toList) = decide ((nums8 s).drop m ≠ seal4 ((nums8 s).take m)) := by
  rw [str_eq_iff, drop_str, nums8_strOfNums _ (seal4_range _), nums8_extract]
  simp

theorem open_calls (s : ByteArray) (w : World) (hs : s.size ≤ 1099511627776) (ht : TabAt w) :
    Calls Tryd.prog 11 #[.string s] w fun e w' => e = .returned (tup2 (openL (nums8 s))) ∧ Below w.heap.size w w' := by
  obtain ⟨⟨n, k, er⟩, hg⟩ : ∃ g, getL (nums8 s) = g := ⟨_, rfl⟩
  have hfin := openL_of s hg
  have hgl : er = 0 → 1 ≤ k ∧ k ≤ 8 ∧ k ≤ s.size ∧ -9007199254740992 ≤ n ∧ n ≤ 9007199254740992 := by
    intro h
    have := getL_take (nums8_range s) (by rw [hg]; exact h)
    rw [hg, nums8_length] at this
    exact ⟨this.2.1, this.2.2.1, this.2.2.2.1, this.2.2.2.2.1, this.2.2.2.2.2⟩
  generalize openL (nums8 s) = R at *
  have HG := Lib.hid hg
  clear hg
  by_cases h0 : er ≠ 0
  · rw [if_pos h0] at hfin
    have hd0 : (er == 0) = false := by rw [beq_eq_false_iff_ne]; exact h0
    have HF := Lib.hid hfin
    clear hfin hgl
    go_enter Tryd.func11, Tryd.ntmps11
    go_wp2_with fail
    refine (get_calls s _ (by omega)).mono ?_
    rintro e w1 ⟨rfl, hb1⟩
    rw [HG.out, tup3]
    go_wp2
    go_ret2
    exact ⟨ret_tup2 HF.out rfl, hb1⟩
  have hz0 : er = 0 := Classical.not_not.1 h0
  obtain ⟨hk1, hk8, hks, hn1, hn2⟩ := hgl hz0
  clear hgl
  subst hz0
  rw [if_neg h0] at hfin
  have hk9 : k + n + 4 ≤ 9007199254741004 := by omega
  by_cases h1 : n < 0
  · rw [if_pos h1] at hfin
    have HF := Lib.hid hfin
    clear hfin
    go_enter Tryd.func11, Tryd.ntmps11
    go_wp2_with fail
    refine (get_calls s _ (by omega)).mono ?_
    rintro e w1 ⟨rfl, hb1⟩
    rw [HG.out, tup3]
    go_wp2
    go_ret2
    exact ⟨ret_tup2 HF.out rfl, hb1⟩
  rw [if_neg h1] at hfin
  by_cases h2 : 1048576 < n
  · rw [if_pos h2] at hfin
    have HF := Lib.hid hfin
    clear hfin
    go_enter Tryd.func11, Tryd.ntmps11
    go_wp2_with fail
    refine (get_calls s _ (by omega)).mono ?_
    rintro e w1 ⟨rfl, hb1⟩
    rw [HG.out, tup3]
    go_wp2
    go_ret2
    exact ⟨ret_tup2 HF.out rfl, hb1⟩
  rw [if_neg h2] at hfin
  by_cases h3 : (s.size : Int) < k + n + 4
  · rw [if_pos h3] at hfin
    have HF := Lib.hid hfin
    clear hfin
    go_enter Tryd.func11, Tryd.ntmps11
    go_wp2_with fail
    refine (get_calls s _ (by omega)).mono ?_
    rintro e w1 ⟨rfl, hb1⟩
    rw [HG.out, tup3]
    go_wp2
    go_ret2
    exact ⟨ret_tup2 HF.out rfl, hb1⟩
  rw [if_neg h3] at hfin
  by_cases h4 : k + n + 4 < (s.size : Int)
  · rw [if_pos h4] at hfin
    have HF := Lib.hid hfin
    clear hfin
    go_enter Tryd.func11, Tryd.ntmps11
    go_wp2_with fail
    refine (get_calls s _ (by omega)).mono ?_
    rintro e w1 ⟨rfl, hb1⟩
    rw [HG.out, tup3]
    go_wp2
    go_ret2
    exact ⟨ret_tup2 HF.out rfl, hb1⟩
  rw [if_neg h4] at hfin
  obtain ⟨kk, rfl⟩ : ∃ kk : Nat, k = kk := ⟨k.toNat, by omega⟩
  obtain ⟨nn, rfl⟩ : ∃ nn : Nat, n = nn := ⟨n.toNat, by omega⟩
  rw [show ((kk : Int) + (nn : Int)).toNat = kk + nn by omega, Int.toNat_natCast, Int.toNat_natCast] at hfin
  have hsz : s.size = kk + nn + 4 := by omega
  have hcmp0 := seal_cmp s (kk + nn)
  rw [hsz] at hcmp0
  have hcmp := Lib.hid hcmp0
  have hbody := cut_str s kk nn
  have hext : (s.extract 0 (kk + nn)).size = kk + nn := by rw [ByteArray.size_extract]; omega
  have HF := Lib.hid hfin
  have HB := Lib.hid hbody
  clear hfin hbody h0 hk9 hcmp0
  go_enter Tryd.func11, Tryd.ntmps11
  go_wp2_with fail
  refine (get_calls s _ (by omega)).mono ?_
  rintro e w1 ⟨rfl, hb1⟩
  rw [HG.out, tup3]
  have ht1 := ht.below ht.1 hb1
  have HT := Lib.hid (show TabAt w1.drew from ht1)
  clear ht1 ht
  go_wp2_with fail
  have q1 : IntKind.i64.wrap ((kk : Int) + (nn : Int)) = (kk : Int) + (nn : Int) := by rw [IntKind.wrap_i64]; omega
  have q2 : (0 : Int) ≤ (kk : Int) + (nn : Int) := by omega
  have q3 : ((kk : Int) + (nn : Int)).toNat = kk + nn := by omega
  have q4 : (kk : Int) + (nn : Int) ≤ (s.size : Int) := by omega
  have q5 : kk + nn ≤ s.size := by omega
  have q6 : (kk : Int) ≤ (kk : Int) + (nn : Int) := by omega
  have q7 : (kk : Int) + (nn : Int) ≤ (kk : Int) + (nn : Int) + 4 := by omega
  have q8 : (0 : Int) ≤ (kk : Int) := by omega
  have q9 : kk ≤ kk + nn := by omega
  go_region_held3 (fun _ => True) (trivial) ((go_at_call 21; refine (seal_calls _ _ (by omega) HT.out).mono ?_; rintro e w2 ⟨rfl, hb2⟩))
  all_goals
    have hT := hcmp.out
    have hF := HF.out
    have hP : (nums8 s).drop (kk + nn) ≠ seal4 ((nums8 s).take (kk + nn)) ∨ ¬ (nums8 s).drop (kk + nn) ≠ seal4 ((nums8 s).take (kk + nn)) := Decidable.em _
    clear hcmp HF
    rcases hP with hP | hP
    · rw [if_pos hP] at hF
      rw [decide_eq_true hP] at hT
      clear hP
      go_wp2
      all_goals first
        | (exfalso; rename_i hh; exact absurd (hT.symm.trans hh) (by decide))
        | (go_ret2; exact ⟨ret_tup2 hF rfl, hb1.drew.trans (hb2.mono hb1.size)⟩)
    · rw [if_neg hP] at hF
      rw [decide_eq_false hP] at hT
      clear hP
      go_wp2
      all_goals first
        | (exfalso; rename_i hh; exact absurd (hT.symm.trans hh) (by decide))
        | (go_ret2; exact ⟨ret_tup2 hF HB.out, hb1.drew.trans (hb2.mono hb1.size)⟩)
end Go.Proofs.YtmmcigpbajlneaaDoor
