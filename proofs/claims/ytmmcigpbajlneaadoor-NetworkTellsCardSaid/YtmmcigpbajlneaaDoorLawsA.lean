/- The laws of frames: speaks, FrameWraps, FrameOpens, FrameApart, walked. -/
import Derived.Test.YtmmcigpbajlneaaDoorROpen
set_option linter.unusedVariables false
set_option linter.unusedSimpArgs false
namespace Go.Proofs.YtmmcigpbajlneaaDoor
open Go.RowKit
set_option maxRecDepth 100000

theorem toList_beq (s : ByteArray) : (s.toList == s.toList) = true := by simp
theorem wrapL_length_le (l : List Int) (h : l.length ≤ 1048576) : (wrapL l).length ≤ l.length + 12 := by
  have := putL_length (l.length : Int)
  unfold wrapL
  rw [if_neg (by omega)]
  simp [seal4_length]
  omega
theorem wrapS_size (s : ByteArray) (h : s.size ≤ 1048576) : (strOfNums (wrapL (nums8 s))).size ≤ s.size + 12 := by
  rw [strOfNums_size]
  have := wrapL_length_le (nums8 s) (by rw [nums8_length]; exact h)
  rw [nums8_length] at this
  exact this
theorem openS (s : ByteArray) (h : s.size ≤ 1048576) : openL (nums8 (strOfNums (wrapL (nums8 s)))) = (nums8 s, 0) := by
  rw [nums8_strOfNums _ (wrapL_range _ (nums8_range _)), openL_wrapL _ (by rw [nums8_length]; exact h)]
theorem tup2_open (s : ByteArray) (h : s.size ≤ 1048576) : tup2 (openL (nums8 (strOfNums (wrapL (nums8 s))))) = .tuple #[.string s, .int .i64 0] := by
  rw [openS s h, tup2, strOfNums_nums8]
theorem sum9 : crc (nums8 ⟨#[49, 50, 51, 52, 53, 54, 55, 56, 57]⟩) = 3421780262 := by decide +kernel

theorem fspeaks_calls (w : World) (ht : TabAt w) :
    Calls Tryd.prog 9 #[] w fun e w' => e = .returned (.bool true) ∧ Below w.heap.size w w' := by
  go_enter Tryd.func9, Tryd.ntmps9
  go_wp2_with fail
  refine (wrap_calls ⟨#[97, 98]⟩ _ (by decide) ht).mono ?_
  rintro e w1 ⟨rfl, hb1⟩
  have hsz := wrapS_size ⟨#[97, 98]⟩ (by decide)
  have hop := tup2_open ⟨#[97, 98]⟩ (by decide)
  have ht1 := ht.below ht.1 hb1
  have h2 : (⟨#[97, 98]⟩ : ByteArray).size = 2 := rfl
  rw [h2] at hsz
  generalize strOfNums (wrapL (nums8 ⟨#[97, 98]⟩)) = F at *
  have HOP := Lib.hid hop
  clear hop h2
  go_wp2_with fail
  refine (open_calls F _ (by omega) ht1).mono ?_
  rintro e w2 ⟨rfl, hb2⟩
  rw [HOP.out]
  have ht2 := ht1.below ht1.1 hb2
  go_wp2_with fail
  refine (sum_calls ⟨#[49, 50, 51, 52, 53, 54, 55, 56, 57]⟩ _ (by decide) ht2).mono ?_
  rintro e w3 ⟨rfl, rfl⟩
  rw [sum9]
  go_wp2
  go_ret
  exact ⟨rfl, hb1.trans (hb2.mono hb1.size)⟩

theorem wraps_calls (s : ByteArray) (w : World) (ht : TabAt w) :
    Calls Tryd.prog 3 #[.string s] w fun e w' => e = .returned (.bool true) ∧ Below w.heap.size w w' := by
  go_enter Tryd.func3, Tryd.ntmps3
  go_wp2_with fail
  refine (fspeaks_calls _ ht).mono ?_
  rintro e w1 ⟨rfl, hb1⟩
  have ht1 := ht.below ht.1 hb1
  by_cases hlen : 5000 < s.size
  · go_wp2
    go_ret
    exact ⟨rfl, hb1⟩
  go_wp2_with fail
  refine (wrap_calls s _ (by omega) ht1).mono ?_
  rintro e w2 ⟨rfl, hb2⟩
  have hsz := wrapS_size s (by omega)
  have hop := tup2_open s (by omega)
  have ht2 := ht1.below ht1.1 hb2
  have hb12 := hb1.trans (hb2.mono hb1.size)
  generalize hF : strOfNums (wrapL (nums8 s)) = F at *
  have HOP := Lib.hid hop
  have HF := Lib.hid hF
  clear hop hF
  go_wp2_with fail
  refine (open_calls F _ (by omega) ht2).mono ?_
  rintro e w3 ⟨rfl, hb3⟩
  rw [HOP.out]
  have ht3 := ht2.below ht2.1 hb3
  have hb13 := hb12.trans (hb3.mono hb12.size)
  go_wp2_with fail
  refine (sum_calls s _ (by omega) ht3).mono ?_
  rintro e w4 ⟨rfl, rfl⟩
  go_wp2_with fail
  refine (rsum_calls s _ (by omega)).mono ?_
  rintro e w5 ⟨rfl, rfl⟩
  go_wp2_with fail
  refine (rwrap_calls s _ (by omega)).mono ?_
  rintro e w6 ⟨rfl, hb6⟩
  rw [HF.out]
  have k1 := toList_beq F
  have k2 := toList_beq s
  go_wp2
  go_ret
  exact ⟨rfl, hb13.trans (hb6.mono hb13.size)⟩

theorem opens_calls (s : ByteArray) (w : World) (ht : TabAt w) :
    Calls Tryd.prog 4 #[.string s] w fun e w' => e = .returned (.bool true) ∧ Below w.heap.size w w' := by
  go_enter Tryd.func4, Tryd.ntmps4
  go_wp2_with fail
  refine (fspeaks_calls _ ht).mono ?_
  rintro e w1 ⟨rfl, hb1⟩
  have ht1 := ht.below ht.1 hb1
  by_cases hlen : 5000 < s.size
  · go_wp2
    go_ret
    exact ⟨rfl, hb1⟩
  go_wp2_with fail
  refine (open_calls s _ (by omega) ht1).mono ?_
  rintro e w2 ⟨rfl, hb2⟩
  have hb12 := hb1.trans (hb2.mono hb1.size)
  have hr := ropen_calls s w2 (by omega)
  have HR := Lib.hid hr
  clear hr
  obtain ⟨r, hr⟩ : ∃ r, openL (nums8 s) = r := ⟨_, rfl⟩
  have HRR := Lib.hid hr
  rw [hr, tup2]
  clear hr
  go_wp2_with fail
  refine HR.out.mono ?_
  rintro e w3 ⟨rfl, hb3⟩
  rw [HRR.out, tup2]
  generalize strOfNums r.1 = b
  generalize r.2 = n
  have k1 := toList_beq b
  go_wp2
  go_ret
  exact ⟨rfl, hb12.trans (hb3.mono hb12.size)⟩

theorem wrap_inj (a b : ByteArray) (ha : a.size ≤ 1048576) (hb : b.size ≤ 1048576) : ((strOfNums (wrapL (nums8 a))).toList == (strOfNums (wrapL (nums8 b))).toList) = (a.toList == b.toList) := by
  rw [str_eq_iff, str_eq_iff, nums8_strOfNums _ (wrapL_range _ (nums8_range _)), nums8_strOfNums _ (wrapL_range _ (nums8_range _))]
  have : wrapL (nums8 a) = wrapL (nums8 b) ↔ nums8 a = nums8 b := by
    constructor
    · intro h
      have h1 := openL_wrapL (nums8 a) (by rw [nums8_length]; exact ha)
      rw [h, openL_wrapL (nums8 b) (by rw [nums8_length]; exact hb)] at h1
      exact (congrArg Prod.fst h1).symm
    · intro h; rw [h]
  exact decide_eq_decide.mpr this

theorem apart_calls (a b : ByteArray) (w : World) (ht : TabAt w) :
    Calls Tryd.prog 7 #[.string a, .string b] w fun e w' => e = .returned (.bool true) ∧ Below w.heap.size w w' := by
  go_enter Tryd.func7, Tryd.ntmps7
  go_wp2_with fail
  refine (fspeaks_calls _ ht).mono ?_
  rintro e w1 ⟨rfl, hb1⟩
  have ht1 := ht.below ht.1 hb1
  by_cases hla : 2000 < a.size
  · go_wp2
    go_ret
    exact ⟨rfl, hb1⟩
  by_cases hlb : 2000 < b.size
  · go_wp2
    go_ret
    exact ⟨rfl, hb1⟩
  go_wp2_with fail
  refine (wrap_calls a _ (by omega) ht1).mono ?_
  rintro e w2 ⟨rfl, hb2⟩
  have ht2 := ht1.below ht1.1 hb2
  have hb12 := hb1.trans (hb2.mono hb1.size)
  go_wp2_with fail
  refine (wrap_calls b _ (by omega) ht2).mono ?_
  rintro e w3 ⟨rfl, hb3⟩
  have ht3 := ht2.below ht2.1 hb3
  have hb13 := hb12.trans (hb3.mono hb12.size)
  have hsz := wrapS_size a (by omega)
  have heq := wrap_inj a b (by omega) (by omega)
  generalize strOfNums (wrapL (nums8 a)) = F at *
  generalize strOfNums (wrapL (nums8 b)) = G at *
  have HQ := Lib.hid heq
  clear heq
  go_wp2_with fail
  refine (wrap_calls F _ (by omega) ht3).mono ?_
  rintro e w4 ⟨rfl, hb4⟩
  have ht4 := ht3.below ht3.1 hb4
  have hb14 := hb13.trans (hb4.mono hb13.size)
  have hsz2 := wrapS_size F (by omega)
  have hop := tup2_open F (by omega)
  generalize strOfNums (wrapL (nums8 F)) = H at *
  have HOP := Lib.hid hop
  clear hop
  go_wp2_with fail
  refine (open_calls H _ (by omega) ht4).mono ?_
  rintro e w5 ⟨rfl, hb5⟩
  rw [HOP.out]
  have k1 := toList_beq F
  have k2 : ((F.toList == G.toList) == (a.toList == b.toList)) = true := by rw [HQ.out]; simp
  go_wp2
  all_goals first
    | (exfalso; rename_i hh; exact hh (by simpa using k2))
    | (go_ret; exact ⟨rfl, hb14.trans (hb5.mono hb14.size)⟩)
end Go.Proofs.YtmmcigpbajlneaaDoor
