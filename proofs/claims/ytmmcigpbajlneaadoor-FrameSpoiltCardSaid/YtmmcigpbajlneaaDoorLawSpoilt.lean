/- FrameSpoilt, walked. -/
import Derived.Test.YtmmcigpbajlneaaDoorLawsA
import Derived.Test.YtmmcigpbajlneaaDoorSpoiltL
import Derived.Lib.ConvBytes
set_option linter.unusedVariables false
set_option linter.unusedSimpArgs false
namespace Go.Proofs.YtmmcigpbajlneaaDoor
open Go.RowKit
set_option maxRecDepth 100000

theorem tmod_place (a : Int) (T : Nat) (hT : 0 < T) : (a.tmod T + T).tmod T = ((a % (T : Int)).toNat : Int) ∧ (a % (T : Int)).toNat < T ∧ -(T : Int) < a.tmod T ∧ a.tmod T < T := by
  have a1 := Int.tmod_lt_of_pos a (show (0 : Int) < T by omega)
  have a2 := Int.lt_tmod_of_pos a (show (0 : Int) < T by omega)
  have e2 : a.tmod T = a + T * (-(a.tdiv T)) := by
    have := Int.mul_tdiv_add_tmod a T
    rw [Int.mul_neg]
    omega
  have e3 : (a.tmod T) % T = a % T := by rw [e2, Int.add_mul_emod_self_left]
  have e4 := Int.emod_nonneg a (show (T : Int) ≠ 0 by omega)
  have e5 := Int.emod_lt_of_pos a (show (0 : Int) < T by omega)
  refine ⟨?_, by omega, by omega, a1⟩
  rw [Int.tmod_eq_emod_of_nonneg (by omega), Int.add_emod_right, e3]
  omega

theorem spoiltLaw_calls (s : ByteArray) (a y : Int) (w : World) (ht : TabAt w) (hy0 : 0 ≤ y) (hy1 : y ≤ 4294967295) :
    Calls Tryd.prog 5 #[.string s, .int .i64 a, .int .u32 y] w fun e w' => e = .returned (.bool true) ∧ Below w.heap.size w w' := by
  go_enter Tryd.func5, Tryd.ntmps5
  go_wp2_with fail
  refine (fspeaks_calls _ ht).mono ?_
  rintro e w1 ⟨rfl, hb1⟩
  have ht1 := ht.below ht.1 hb1
  by_cases hlen : 3000 < s.size
  · go_wp2
    go_ret
    exact ⟨rfl, hb1⟩
  go_wp2_with fail
  refine (wrap_calls s _ (by omega) ht1).mono ?_
  rintro e w2 ⟨rfl, hb2⟩
  have ht2 := ht1.below ht1.1 hb2
  have hb12 := hb1.trans (hb2.mono hb1.size)
  have hnF := nums8_strOfNums _ (wrapL_range _ (nums8_range s))
  have hTl := wrapL_length_le (nums8 s) (by rw [nums8_length]; omega)
  have hT5 : 5 ≤ (wrapL (nums8 s)).length := by
    unfold wrapL
    rw [if_neg (by rw [nums8_length]; omega), nums8_length, putL_of _ (by omega)]
    simp [seal4_length]
    omega
  have hsz : (strOfNums (wrapL (nums8 s))).size = (wrapL (nums8 s)).length := strOfNums_size _
  rw [nums8_length] at hTl
  generalize hF : strOfNums (wrapL (nums8 s)) = F at *
  rw [← hsz] at hTl hT5
  clear hsz
  obtain ⟨m1, m2, m3, m4⟩ := tmod_place a F.size (by omega)
  generalize (a % (F.size : Int)).toNat = p at *
  have hF0 : (0 : Int) < (F.size : Int) := by omega
  have kc := fun wx => Lib.run_convert_string_bytes (P := Tryd.prog) wx 9 32 5 F Tryd.underlying9 Tryd.underlying32 Tryd.underlying5
  go_wp2_with fail
  clear kc
  have hb8 := bytesAt_new w2 5 F
  have hbW := below_bytesWorld w2 5 F
  rw [show (F.data.toList.map fun c => (c.toNat : Int)) = wrapL (nums8 s) from hnF] at hb8
  have hrg := wrapL_range _ (nums8_range s)
  have hxl : (wrapL (nums8 s)).length = F.size := by rw [← hnF, nums8_length]
  have hshut : spoilTo (wrapL (nums8 s)) p y (p + 4) ≠ wrapL (nums8 s) → (openL (spoilTo (wrapL (nums8 s)) p y (p + 4))).2 ≠ 0 := spoilt_shut _ (nums8_range s) (by rw [nums8_length]; omega) p y
  have hok : openL (wrapL (nums8 s)) = (nums8 s, 0) := openL_wrapL _ (by rw [nums8_length]; omega)
  have hcut : (openL ((wrapL (nums8 s)).take p)).2 = 3 := openL_cut _ (by rw [nums8_length]; omega) p (by omega)
  have htail : ∀ t, t ≠ [] → (openL (wrapL (nums8 s) ++ t)).2 = 4 := fun t h => openL_tail _ (by rw [nums8_length]; omega) t h
  have HSH := Lib.hid hshut
  have HOK := Lib.hid hok
  have HCUT := Lib.hid hcut
  have HTAIL := Lib.hid htail
  have HRG := Lib.hid hrg
  have HNF := Lib.hid hnF
  have hHs : Hid (strOfNums (nums8 s) = s) := strOfNums_nums8 s
  clear hshut hok hcut htail hrg hnF
  generalize wrapL (nums8 s) = xs at *
  have HXL := Lib.hid hxl
  clear hxl
  generalize grownCap _ _ _ _ = cap
  have HB8 := Lib.hid hb8
  have HBW := Lib.hid hbW
  clear hb8 hbW
  generalize Lib.bytesWorld w2 5 F = w3 at *
  have hb13 := hb12.trans (HBW.out.mono hb12.size)
  have ht3 := ht2.below ht2.1 HBW.out
  generalize hn : F.size = n at *
  go_wp2_with fail
  go_loopw [9, 10] (fun cv iv wr => ∃ i : Nat, i ≤ 4 ∧ p + i ≤ n ∧ iv = .int .i64 (i : Int) ∧ cv = .bool (decide (spoilTo xs p y (p + i) ≠ xs)) ∧ BytesAt wr w2.heap.size 5 (spoilTo xs p y (p + i)) ∧ Below w2.heap.size w2 wr)
    (fun _ iv _ => 4 - (intOf iv).toNat)
  case atStart =>
    refine ⟨0, by omega, by omega, rfl, ?_, by rw [Nat.add_zero, spoilTo_start]; exact HB8.out, HBW.out⟩
    rw [Nat.add_zero, spoilTo_start]
    simp
  case round =>
    obtain ⟨i, hi, hin, rfl, rfl, hby, hbl⟩ := hrel
    by_cases hlt : i < 4 ∧ p + i < n
    · obtain ⟨l1, l2⟩ := hlt
      obtain ⟨x, hx⟩ : ∃ x, xs[p + i]? = some x := ⟨_, List.getElem?_eq_getElem (by rw [HXL.out]; omega)⟩
      have hcell := hby.cell (p + i) x (spoilTo_at xs p y (p + i) x hx)
      have hfz := hby.frozen (p + i) (by rw [spoilTo_length, HXL.out]; omega)
      have hflag := spoilTo_flag xs p y (p + i) HRG.out (by omega) (by rw [HXL.out]; omega)
      have hsuc := spoilTo_succ xs p y (p + i) x (by omega) hx
      have hset := hby.set (p + i) (by rw [spoilTo_length, HXL.out]; omega) (bits .xor .u8 x (byteAt y i))
      rw [show p + i - p = i by omega] at hflag hsuc
      rw [hsuc] at hset
      have hfin : Below w2.heap.size w2 (wr.setCell ⟨w2.heap.size, p + i, none⟩ (.int .u8 (bits .xor .u8 x (byteAt y i)))) := hbl.setCell (p := ⟨w2.heap.size, p + i, none⟩) (Nat.le_refl _) _
      have HSET := Lib.hid hset
      have HFIN := Lib.hid hfin
      generalize hD : decide (spoilTo xs p y (p + i) ≠ xs) = D at *
      have HFL := Lib.hid hflag
      clear hflag hsuc hset hfin hD hby hbl hx
      obtain rfl | rfl | rfl | rfl : i = 0 ∨ i = 1 ∨ i = 2 ∨ i = 3 := by omega
      · rw [Nat.add_zero] at hcell hfz HSET HFIN
        have hk1 : (p : Int) + 0 < (n : Int) := by omega
        have hk0 : (0 : Int) ≤ (p : Int) + 0 := by omega
        have hkt : ((p : Int) + 0).toNat = p + 0 := by omega
        have hsb : (0 : Int) < (n : Int) - (p : Int) := by omega
        obtain ⟨z, hz⟩ : ∃ z, byteAt y 0 = z := ⟨_, rfl⟩
        have hzz : y % 256 = z := by rw [← hz]; unfold byteAt; rw [Int.pow_zero, Int.ediv_one]
        rw [hz] at HSET HFIN HFL
        clear hz
        go_wp2_with fail
        all_goals
          refine ⟨⟨0 + 1, by omega, by omega, rfl, ?_, HSET.out, HFIN.out⟩, by simp [intOf]⟩
          rw [show p + (0 + 1) = p + 0 + 1 from rfl, HFL.out]
          simp [*]
      · have hk1 : (p : Int) + 1 < (n : Int) := by omega
        have hk0 : (0 : Int) ≤ (p : Int) + 1 := by omega
        have hkt : ((p : Int) + 1).toNat = p + 1 := by omega
        have hsb : (1 : Int) < (n : Int) - (p : Int) := by omega
        obtain ⟨z, hz⟩ : ∃ z, byteAt y 1 = z := ⟨_, rfl⟩
        have hzz : y / 256 % 256 = z := by rw [← hz]; unfold byteAt; rfl
        rw [hz] at HSET HFIN HFL
        clear hz
        go_wp2_with fail
        all_goals
          refine ⟨⟨1 + 1, by omega, by omega, rfl, ?_, HSET.out, HFIN.out⟩, by simp [intOf]⟩
          rw [show p + (1 + 1) = p + 1 + 1 from rfl, HFL.out]
          simp [*]
      · have hk1 : (p : Int) + 2 < (n : Int) := by omega
        have hk0 : (0 : Int) ≤ (p : Int) + 2 := by omega
        have hkt : ((p : Int) + 2).toNat = p + 2 := by omega
        have hsb : (2 : Int) < (n : Int) - (p : Int) := by omega
        obtain ⟨z, hz⟩ : ∃ z, byteAt y 2 = z := ⟨_, rfl⟩
        have hzz : y / 65536 % 256 = z := by rw [← hz]; unfold byteAt; rfl
        rw [hz] at HSET HFIN HFL
        clear hz
        go_wp2_with fail
        all_goals
          refine ⟨⟨2 + 1, by omega, by omega, rfl, ?_, HSET.out, HFIN.out⟩, by simp [intOf]⟩
          rw [show p + (2 + 1) = p + 2 + 1 from rfl, HFL.out]
          simp [*]
      · have hk1 : (p : Int) + 3 < (n : Int) := by omega
        have hk0 : (0 : Int) ≤ (p : Int) + 3 := by omega
        have hkt : ((p : Int) + 3).toNat = p + 3 := by omega
        have hsb : (3 : Int) < (n : Int) - (p : Int) := by omega
        obtain ⟨z, hz⟩ : ∃ z, byteAt y 3 = z := ⟨_, rfl⟩
        have hzz : y / 16777216 = z := by rw [← hz]; unfold byteAt; rw [show (256 : Int) ^ 3 = 16777216 from rfl]; omega
        rw [hz] at HSET HFIN HFL
        clear hz
        go_wp2_with fail
        all_goals
          refine ⟨⟨3 + 1, by omega, by omega, rfl, ?_, HSET.out, HFIN.out⟩, by simp [intOf]⟩
          rw [show p + (3 + 1) = p + 3 + 1 from rfl, HFL.out]
          simp [*]
    · have hkk : p + i = p + 4 ∨ xs.length ≤ p + i ∧ p + i ≤ p + 4 := by rw [HXL.out]; omega
      rw [spoilTo_end xs p y (p + i) hkk] at hby
      rw [spoilTo_end xs p y (p + i) hkk]
      have hgl : (spoilTo xs p y (p + 4)).length = n := by rw [spoilTo_length, HXL.out]
      have hconv : Sem.run Tryd.prog (convert 32 9 (.slice (some ⟨w2.heap.size, 0, none⟩) n cap)) wr = .ok (.string (strOfNums (spoilTo xs p y (p + 4)))) wr := by
        refine run_convert_bytes_arg (P := Tryd.prog) wr 32 5 Tryd.underlying32 Tryd.underlying5 w2.heap.size 0 n cap _ hgl (fun q hq => ?_) 9 Tryd.underlying9
        rw [Nat.zero_add]
        refine hby.cell q _ ?_
        rw [List.getD_eq_getElem?_getD, List.getElem?_eq_getElem (by omega)]
        rfl
      have hGn := nums8_strOfNums _ (spoilTo_range xs p y (p + 4) HRG.out)
      have hGs : (strOfNums (spoilTo xs p y (p + 4))).size = n := by rw [strOfNums_size, hgl]
      have hsh := HSH.out
      have hok := HOK.out
      rw [← hGn] at hsh
      have hG2 : ∀ h : spoilTo xs p y (p + 4) = xs, openL (nums8 (strOfNums (spoilTo xs p y (p + 4)))) = (nums8 s, 0) := fun h => by rw [hGn, h]; exact hok
      obtain ⟨c1, hc1⟩ : ∃ c1, openL (nums8 (F.extract 0 p)) = (c1, 3) := ⟨_, Prod.ext rfl (by rw [nums8_extract, HNF.out, List.drop_zero, Nat.sub_zero]; exact HCUT.out)⟩
      obtain ⟨c4, hc4⟩ : ∃ c4, openL (nums8 (F ++ F.extract 0 (1 + p % 4))) = (c4, 4) := ⟨_, Prod.ext rfl (by
        rw [nums8_append, nums8_extract, HNF.out, List.drop_zero, Nat.sub_zero]
        refine HTAIL.out _ fun h => ?_
        have := congrArg List.length h
        rw [List.length_take, HXL.out, List.length_nil] at this
        omega)⟩
      have HC2 := Lib.hid hc1
      have HC4 := Lib.hid hc4
      clear hc1 hc4
      rcases Decidable.em (spoilTo xs p y (p + 4) ≠ xs) with hne | hne
      · have hbad := hsh (by rw [hGn]; exact hne)
        have hbad1 := openL_bad _ hbad
        rw [decide_eq_true hne]
        clear hG2 hGn
        generalize strOfNums (spoilTo xs p y (p + 4)) = G at *
        obtain ⟨r, hr⟩ : ∃ r, (openL (nums8 G)).2 = r := ⟨_, rfl⟩
        have hR : tup2 (openL (nums8 G)) = .tuple #[.string ⟨#[]⟩, .int .i64 r] := by rw [tup2, hbad1, hr]; rfl
        rw [hr] at hbad
        have hr0 : (r == 0) = false := by rw [beq_eq_false_iff_ne]; exact hbad
        have HR := Lib.hid hR
        clear hR hr hbad1 hsh hok hgl hne
        have hb14 := hb12.trans (hbl.mono hb12.size)
        have ht4 := ht2.below ht2.1 hbl
        have HTT := Lib.hid ht4
        have HBB := Lib.hid hb14
        have hlt2 : (i : Int) < 4 → (n : Int) - (p : Int) ≤ (i : Int) := by omega
        clear hby hbl hb14 ht4 hkk hb13 ht3 hlt
        go_wp2_with fail
        all_goals
          refine (open_calls G _ (by omega) HTT.out).mono ?_
          rintro e w5 ⟨rfl, hb5⟩
          rw [HR.out]
          have ht5 := HTT.out.below HTT.out.1 hb5
          have hb15 := HBB.out.trans (hb5.mono HBB.out.size)
          clear hb5
          have q1 : (p : Int) ≤ (n : Int) := by omega
          have q2 : (0 : Int) ≤ (p : Int) := by omega
          have hcs : (F.extract 0 p).size ≤ n := by rw [ByteArray.size_extract]; omega
          go_wp2_with fail
          refine (open_calls (F.extract 0 p) _ (by omega) ht5).mono ?_
          rintro e w6 ⟨rfl, hb6⟩
          have ht6 := ht5.below ht5.1 hb6
          have hb16 := hb15.trans (hb6.mono hb15.size)
          rw [HC2.out, tup2]
          clear hb6
          have q3 : (1 : Int) + (p : Int) % 4 ≤ (n : Int) := by omega
          have q4 : (0 : Int) ≤ (1 : Int) + (p : Int) % 4 := by omega
          have q5 : ((1 : Int) + (p : Int) % 4).toNat = 1 + p % 4 := by omega
          have q6 : (0 : Int) ≤ (p : Int) % 4 := by omega
          have q7 : (p : Int) % 4 < 4 := by omega
          have hts : (F.extract 0 (1 + p % 4)).size = 1 + p % 4 := by rw [ByteArray.size_extract]; omega
          have hfs : (F ++ F.extract 0 (1 + p % 4)).size = F.size + (F.extract 0 (1 + p % 4)).size := ByteArray.size_append
          go_wp2_with fail
          refine (open_calls (F ++ F.extract 0 (1 + p % 4)) _ (by omega) ht6).mono ?_
          rintro e w7 ⟨rfl, hb7⟩
          have hb17 := hb16.trans (hb7.mono hb16.size)
          rw [HC4.out, tup2]
          go_wp2
          go_ret
          exact ⟨rfl, hb17⟩
      · have heq : spoilTo xs p y (p + 4) = xs := Classical.not_not.1 hne
        have hR0 := hG2 heq
        rw [decide_eq_false hne]
        clear hG2 hGn
        generalize strOfNums (spoilTo xs p y (p + 4)) = G at *
        have hR : tup2 (openL (nums8 G)) = .tuple #[.string s, .int .i64 0] := by rw [hR0, tup2, hHs.out]
        have HR := Lib.hid hR
        clear hR hR0 hsh hok hgl hne heq
        have hb14 := hb12.trans (hbl.mono hb12.size)
        have ht4 := ht2.below ht2.1 hbl
        have HTT := Lib.hid ht4
        have HBB := Lib.hid hb14
        have hlt2 : (i : Int) < 4 → (n : Int) - (p : Int) ≤ (i : Int) := by omega
        clear hby hbl hb14 ht4 hkk hb13 ht3 hlt
        go_wp2_with fail
        all_goals
          refine (open_calls G _ (by omega) HTT.out).mono ?_
          rintro e w5 ⟨rfl, hb5⟩
          rw [HR.out]
          have ht5 := HTT.out.below HTT.out.1 hb5
          have hb15 := HBB.out.trans (hb5.mono HBB.out.size)
          clear hb5
          have q1 : (p : Int) ≤ (n : Int) := by omega
          have q2 : (0 : Int) ≤ (p : Int) := by omega
          have hcs : (F.extract 0 p).size ≤ n := by rw [ByteArray.size_extract]; omega
          go_wp2_with fail
          refine (open_calls (F.extract 0 p) _ (by omega) ht5).mono ?_
          rintro e w6 ⟨rfl, hb6⟩
          have ht6 := ht5.below ht5.1 hb6
          have hb16 := hb15.trans (hb6.mono hb15.size)
          rw [HC2.out, tup2]
          clear hb6
          have q3 : (1 : Int) + (p : Int) % 4 ≤ (n : Int) := by omega
          have q4 : (0 : Int) ≤ (1 : Int) + (p : Int) % 4 := by omega
          have q5 : ((1 : Int) + (p : Int) % 4).toNat = 1 + p % 4 := by omega
          have q6 : (0 : Int) ≤ (p : Int) % 4 := by omega
          have q7 : (p : Int) % 4 < 4 := by omega
          have hts : (F.extract 0 (1 + p % 4)).size = 1 + p % 4 := by rw [ByteArray.size_extract]; omega
          have hfs : (F ++ F.extract 0 (1 + p % 4)).size = F.size + (F.extract 0 (1 + p % 4)).size := ByteArray.size_append
          go_wp2_with fail
          refine (open_calls (F ++ F.extract 0 (1 + p % 4)) _ (by omega) ht6).mono ?_
          rintro e w7 ⟨rfl, hb7⟩
          have hb17 := hb16.trans (hb7.mono hb16.size)
          rw [HC4.out, tup2]
          go_wp2
          go_ret
          exact ⟨rfl, hb17⟩
end Go.Proofs.YtmmcigpbajlneaaDoor
