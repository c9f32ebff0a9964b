/- The reference's Open. -/
import Derived.Test.YtmmcigpbajlneaaDoorOpen
set_option linter.unusedVariables false
set_option linter.unusedSimpArgs false
namespace Go.Proofs.YtmmcigpbajlneaaDoor
open Go.RowKit
set_option maxRecDepth 100000

theorem wrap_cmp (s : ByteArray) (k n : Nat) (hg : getL (nums8 s) = ((n : Int), (k : Int), 0)) (hs : s.size = k + n + 4) (hn : n ≤ 1048576) :
    (!(strOfNums (wrapL (nums8 (s.extract k (k + n))))).toList == s.toList) = decide ((nums8 s).drop (k + n) ≠ seal4 ((nums8 s).take (k + n))) := by
  have ht := (getL_take (nums8_range s) (by rw [hg])).1
  rw [hg] at ht
  simp only [Int.toNat_natCast] at ht
  have hlen := nums8_length s
  rw [str_eq_iff, nums8_strOfNums _ (wrapL_range _ (nums8_range _)), nums8_extract, Nat.add_sub_cancel_left]
  generalize nums8 s = l at *
  have hl2 : ((l.drop k).take n).length = n := by simp; omega
  have hcut : l.take (k + n) = l.take k ++ (l.drop k).take n := by rw [List.take_add]
  have hw : wrapL ((l.drop k).take n) = l.take (k + n) ++ seal4 (l.take (k + n)) := by
    unfold wrapL
    rw [hl2, if_neg (by omega), ← ht, ← hcut]
  rw [hw]
  by_cases h : l.drop (k + n) = seal4 (l.take (k + n))
  · rw [← h, List.take_append_drop]; simp
  · have : ¬ l.take (k + n) ++ seal4 (l.take (k + n)) = l := by
      intro e
      have e2 : l.take (k + n) ++ seal4 (l.take (k + n)) = l.take (k + n) ++ l.drop (k + n) := by rw [List.take_append_drop]; exact e
      exact h (List.append_cancel_left e2).symm
    rw [decide_eq_false this]
    simp [h]

theorem ropen_calls (s : ByteArray) (w : World) (hs : s.size ≤ 1099511627776) :
    Calls Tryd.prog 15 #[.string s] w fun e w' => e = .returned (tup2 (openL (nums8 s))) ∧ Below w.heap.size w w' := by
  obtain ⟨⟨n, k, er⟩, hg⟩ : ∃ g, getL (nums8 s) = g := ⟨_, rfl⟩
  have hfin := openL_of s hg
  have hgl : er = 0 → 1 ≤ k ∧ k ≤ 8 ∧ k ≤ s.size ∧ -9007199254740992 ≤ n ∧ n ≤ 9007199254740992 := by
    intro h
    have := getL_take (nums8_range s) (by rw [hg]; exact h)
    rw [hg, nums8_length] at this
    exact ⟨this.2.1, this.2.2.1, this.2.2.2.1, this.2.2.2.2.1, this.2.2.2.2.2⟩
  generalize openL (nums8 s) = R at *
  have HG := Lib.hid hg
  clear hg
  by_cases h0 : er ≠ 0
  · rw [if_pos h0] at hfin
    have hd0 : (er == 0) = false := by rw [beq_eq_false_iff_ne]; exact h0
    have HF := Lib.hid hfin
    clear hfin hgl
    go_enter Tryd.func15, Tryd.ntmps15
    go_wp2_with fail
    refine (rget_calls s _ (by omega)).mono ?_
    rintro e w1 ⟨rfl, hb1⟩
    rw [HG.out, tup3]
    go_wp2
    go_ret2
    exact ⟨ret_tup2 HF.out rfl, hb1⟩
  have hz0 : er = 0 := Classical.not_not.1 h0
  obtain ⟨hk1, hk8, hks, hn1, hn2⟩ := hgl hz0
  clear hgl
  subst hz0
  rw [if_neg h0] at hfin
  have hk9 : k + n + 4 ≤ 9007199254741004 := by omega
  by_cases h1 : n < 0
  · rw [if_pos h1] at hfin
    have HF := Lib.hid hfin
    clear hfin
    go_enter Tryd.func15, Tryd.ntmps15
    go_wp2_with fail
    refine (rget_calls s _ (by omega)).mono ?_
    rintro e w1 ⟨rfl, hb1⟩
    rw [HG.out, tup3]
    go_wp2
    go_ret2
    exact ⟨ret_tup2 HF.out rfl, hb1⟩
  rw [if_neg h1] at hfin
  by_cases h2 : 1048576 < n
  · rw [if_pos h2] at hfin
    have HF := Lib.hid hfin
    clear hfin
    go_enter Tryd.func15, Tryd.ntmps15
    go_wp2_with fail
    refine (rget_calls s _ (by omega)).mono ?_
    rintro e w1 ⟨rfl, hb1⟩
    rw [HG.out, tup3]
    go_wp2
    go_ret2
    exact ⟨ret_tup2 HF.out rfl, hb1⟩
  rw [if_neg h2] at hfin
  by_cases h3 : (s.size : Int) < k + n + 4
  · rw [if_pos h3] at hfin
    have HF := Lib.hid hfin
    clear hfin
    go_enter Tryd.func15, Tryd.ntmps15
    go_wp2_with fail
    refine (rget_calls s _ (by omega)).mono ?_
    rintro e w1 ⟨rfl, hb1⟩
    rw [HG.out, tup3]
    go_wp2
    go_ret2
    exact ⟨ret_tup2 HF.out rfl, hb1⟩
  rw [if_neg h3] at hfin
  by_cases h4 : k + n + 4 < (s.size : Int)
  · rw [if_pos h4] at hfin
    have HF := Lib.hid hfin
    clear hfin
    go_enter Tryd.func15, Tryd.ntmps15
    go_wp2_with fail
    refine (rget_calls s _ (by omega)).mono ?_
    rintro e w1 ⟨rfl, hb1⟩
    rw [HG.out, tup3]
    go_wp2
    go_ret2
    exact ⟨ret_tup2 HF.out rfl, hb1⟩
  rw [if_neg h4] at hfin
  have hg0 := HG.out
  obtain ⟨kk, rfl⟩ : ∃ kk : Nat, k = kk := ⟨k.toNat, by omega⟩
  obtain ⟨nn, rfl⟩ : ∃ nn : Nat, n = nn := ⟨n.toNat, by omega⟩
  rw [show ((kk : Int) + (nn : Int)).toNat = kk + nn by omega, Int.toNat_natCast, Int.toNat_natCast] at hfin
  have hsz : s.size = kk + nn + 4 := by omega
  have hcmp0 := wrap_cmp s kk nn hg0 hsz (by omega)
  have hcmp := Lib.hid hcmp0
  have hbody := cut_str s kk nn
  have hext : (s.extract kk (kk + nn)).size = nn := by rw [ByteArray.size_extract]; omega
  have HF := Lib.hid hfin
  have HB := Lib.hid hbody
  clear hfin hbody h0 hk9 hcmp0 hg0
  go_enter Tryd.func15, Tryd.ntmps15
  go_wp2_with fail
  refine (rget_calls s _ (by omega)).mono ?_
  rintro e w1 ⟨rfl, hb1⟩
  rw [HG.out, tup3]
  have q6 : (kk : Int) ≤ (kk : Int) + (nn : Int) := by omega
  have q7 : (kk : Int) + (nn : Int) ≤ (kk : Int) + (nn : Int) + 4 := by omega
  have q8 : (0 : Int) ≤ (kk : Int) := by omega
  have q9 : kk ≤ kk + nn := by omega
  have q3 : ((kk : Int) + (nn : Int)).toNat = kk + nn := by omega
  go_wp2_with fail
  refine (rwrap_calls _ _ (by omega)).mono ?_
  rintro e w2 ⟨rfl, hb2⟩
  have hT := hcmp.out
  have hF := HF.out
  have hP : (nums8 s).drop (kk + nn) ≠ seal4 ((nums8 s).take (kk + nn)) ∨ ¬ (nums8 s).drop (kk + nn) ≠ seal4 ((nums8 s).take (kk + nn)) := Decidable.em _
  clear hcmp HF
  rcases hP with hP | hP
  · rw [if_pos hP] at hF
    rw [decide_eq_true hP] at hT
    clear hP
    go_wp2
    all_goals first
      | (exfalso; rename_i hh; exact absurd (hT.symm.trans hh) (by decide))
      | (go_ret2; exact ⟨ret_tup2 hF rfl, hb1.trans (hb2.mono hb1.size)⟩)
  · rw [if_neg hP] at hF
    rw [decide_eq_false hP] at hT
    clear hP
    go_wp2
    all_goals first
      | (exfalso; rename_i hh; exact absurd (hT.symm.trans hh) (by decide))
      | (go_ret2; exact ⟨ret_tup2 hF HB.out, hb1.trans (hb2.mono hb1.size)⟩)
end Go.Proofs.YtmmcigpbajlneaaDoor
