/- NetworkTells, walked. -/
import Derived.Test.YtmmcigpbajlneaaDoorLawsA
import Derived.Test.YtmmcigpbajlneaaDoorSpoiltL
import Derived.Test.YtmmcigpbajlneaaDoorNetSpeaks
import Derived.Test.YtmmcigpbajlneaaDoorActs
import Derived.Deep.RegionHeld3
set_option linter.unusedVariables false
set_option linter.unusedSimpArgs false
namespace Go.Proofs.YtmmcigpbajlneaaDoor
open Go.RowKit
set_option maxRecDepth 100000

/-- What is known of the one frame under way. -/
def TellsAt (F : ByteArray) (xs : List Int) (F' : ByteArray) (t : Bool) : Prop :=
  F'.size = F.size ∧ (t = false → F' = F) ∧ (t = true → ∃ p y, F' = strOfNums (spoilTo xs p y (p + 4)) ∧ spoilTo xs p y (p + 4) ≠ xs)

theorem spoil_tells {F : ByteArray} {xs : List Int} {F' : ByteArray} {t : Bool} {g : Nat} {v : Value} {w1 w : World} (j y : Int) (hx : nums8 F = xs) (hF5 : 5 ≤ F.size) (hF : F.size ≤ 100000) (h : NetAt w g g v [⟨1, 2, F', t⟩]) (ht : TellsAt F xs F' t) (hb : Below g w1 w) (hy0 : 0 ≤ y) (hy1 : y ≤ 4294967295) :
    Calls Tryd.prog 18 #[.pointer (some ⟨g, 0, none⟩), .int .i64 0, .int .i64 j, .int .u32 y] w fun e w' =>
      ∃ (r : Bool) (F'' : ByteArray), e = .returned (.bool r) ∧ (r = true → t = false) ∧ TellsAt F xs F'' (t || r) ∧ ∃ v', NetAt w' g g v' [⟨1, 2, F'', t || r⟩] ∧ Below g w1 w' := by
  have hgl := h.lt
  cases t with
  | true =>
    refine (spoil_twice 0 j y ⟨1, 2, F', true⟩ h (by simp) rfl (by show F'.size ≠ 0; rw [ht.1]; omega) rfl).mono ?_
    rintro e w' ⟨rfl, hb2⟩
    exact ⟨false, F', rfl, fun h => (by cases h), ht, v, h.below hb2, hb.trans (hb2.mono (by omega))⟩
  | false =>
    obtain rfl : F' = F := ht.2.1 rfl
    refine (spoil_calls 0 j y ⟨1, 2, F', false⟩ h (by simp) rfl (by show F'.size ≠ 0; omega) rfl hy0 hy1 hF).mono ?_
    intro e w' hp
    unfold SpoilPost at hp
    simp only at hp
    split at hp
    · obtain ⟨rfl, hb2⟩ := hp
      exact ⟨false, F', rfl, fun _ => rfl, ht, v, h.below hb2, hb.trans (hb2.mono (by omega))⟩
    · rename_i hne
      obtain ⟨rfl, hn⟩ := hp
      obtain ⟨v', h1, h2, _⟩ := Now.next h hb hn
      refine ⟨true, spoilt F' j y, rfl, fun _ => rfl, ⟨?_, fun h => (by cases h), fun _ => ⟨place j F'.size, y, ?_, ?_⟩⟩, v', h1, h2⟩
      · unfold spoilt; rw [strOfNums_size, spoilTo_length, nums8_length]
      · unfold spoilt; rw [hx]
      · intro e
        apply hne
        have : spoilt F' j y = F' := by unfold spoilt; rw [hx, e, ← hx, strOfNums_nums8]
        rw [this]
        simp

theorem tells_calls (s : ByteArray) (A : Option Addr) (n c : Nat) (f : Nat → Actv) (w : World) (ht : TabAt w) (hs : s.size ≤ maxLen) (ha : ActsAt w A n f) :
    Calls Tryd.prog 8 #[.string s, .slice A n c] w fun e w' => e = .returned (.bool true) ∧ Below w.heap.size w w' := by
  have hs' : s.size ≤ 9223372036854775807 := hs
  have HA := Lib.hid ha
  have hn63 := ha.small
  clear ha hs
  go_enter Tryd.func8, Tryd.ntmps8
  go_wp2_with fail
  refine (speaks_calls _).mono ?_
  rintro e w1 ⟨rfl, hb1⟩
  have ht1 := ht.below ht.1 hb1
  go_wp2_with fail
  have hbs : (s.extract 0 (min (s.size : Int) 1000).toNat).size ≤ 1000 := by rw [ByteArray.size_extract]; omega
  generalize s.extract 0 (min (s.size : Int) 1000).toNat = b at *
  have hb2 : Below w.heap.size w (w1.alloc (.cells #[.slice none 0 0] 39)) := hb1.alloc hb1.size _
  have hN := netAt_new w1
  have hbW : Below w1.heap.size w1 (w1.alloc (.cells #[.slice none 0 0] 39)) := (Below.refl _ _).alloc (Nat.le_refl _) _
  have ht2 := ht.below ht.1 hb2
  have hg1 := hb1.size
  generalize hW : w1.alloc (.cells #[.slice none 0 0] 39) = W at *
  generalize hG : w1.heap.size = g at *
  refine (wrap_calls b _ (by omega) ht2).mono ?_
  rintro e w3 ⟨rfl, hb3⟩
  have hb13 := hb2.trans (hb3.mono hb2.size)
  have hN3 := hN.below hb3
  have hTl := wrapS_size b (by omega)
  have hT5 : 5 ≤ (wrapL (nums8 b)).length := by
    unfold wrapL
    rw [if_neg (by rw [nums8_length]; omega), nums8_length, putL_of _ (by omega)]
    simp [seal4_length]
    omega
  have hsz : (strOfNums (wrapL (nums8 b))).size = (wrapL (nums8 b)).length := strOfNums_size _
  have HNF := Lib.hid (nums8_strOfNums _ (wrapL_range _ (nums8_range b)))
  have HSH := Lib.hid (fun p y => spoilt_shut _ (nums8_range b) (by rw [nums8_length]; omega) p y)
  have HOK := Lib.hid (tup2_open b (by omega))
  have HRG := Lib.hid (wrapL_range _ (nums8_range b))
  generalize wrapL (nums8 b) = xs at *
  generalize strOfNums xs = F at *
  rw [← hsz] at hT5
  clear hsz
  have hz3 := hb3.size
  go_wp2_with fail
  have hgW : g < w3.heap.size := hN3.lt
  refine (send_calls 1 2 F hN3 (by omega) (by decide)).mono ?_
  rintro e w4 ⟨rfl, hn4⟩
  obtain ⟨v4, hN4, hb4, _⟩ := Now.next hN3 (hbW.trans (hb3.mono (by have := hbW.size; omega))) hn4
  have ht3 := ht2.below ht2.1 hb3
  have HA1 := Lib.hid ((HA.out.below hb1))
  have HT1 := Lib.hid (ht.below ht.1 hb1)
  have hg0 : 1 ≤ g := by have := ht.1; omega
  rw [List.nil_append] at hN4
  have HN4 := Lib.hid hN4
  have HB4 := Lib.hid hb4
  have HB1 := Lib.hid hb1
  clear hN4 hb4 hn4 hN3 hb3 hN hb2 ht2 ht3 hbW hb13 hW ht hb1 HA hgW hz3 hg1
  go_wp2_with fail
  go_loopw [6, 7] (fun tv iv wr => ∃ (i : Nat) (t : Bool) (F' : ByteArray) (v : Value), i ≤ n ∧ i ≤ 20 ∧ iv = .int .i64 (i : Int) ∧ tv = .bool t ∧ TellsAt F xs F' t ∧ NetAt wr g g v [⟨1, 2, F', t⟩] ∧ Below g w1 wr)
    (fun _ iv _ => 20 - (intOf iv).toNat)
  case atStart => exact ⟨0, false, F, v4, by omega, by omega, rfl, rfl, ⟨rfl, fun _ => rfl, fun h => by cases h⟩, HN4.out, HB4.out⟩
  case round =>
    obtain ⟨i, t, F', v, hi1, hi2, rfl, rfl, htell, hNr, hbr⟩ := hrel
    have htr := HT1.out.below (by omega) hbr
    by_cases hlt : i < n ∧ i < 20
    · obtain ⟨l1, l2⟩ := hlt
      obtain ⟨a, rfl, hab, _, _, p2, p3, _, by0, by1, _⟩ := HA1.out.at_ i l1
      rw [add_field _ _ _ (by decide)] at p2 p3
      have hab2 : (⟨(a.add (i * 5)).block, (a.add (i * 5)).off + 2, none⟩ : Addr).block < g := by show (a.add (i * 5)).block < g; rw [add_block']; omega
      have hab3 : (⟨(a.add (i * 5)).block, (a.add (i * 5)).off + 3, none⟩ : Addr).block < g := by show (a.add (i * 5)).block < g; rw [add_block']; omega
      have k2 : wr.cell? ⟨(a.add (i * 5)).block, (a.add (i * 5)).off + 2, none⟩ = some (.int .i64 (f i).pos) := (hbr.cell hab2).trans p2
      have k3 : wr.cell? ⟨(a.add (i * 5)).block, (a.add (i * 5)).off + 3, none⟩ = some (.int .u32 (f i).by_) := (hbr.cell hab3).trans p3
      have HP2 := Lib.hid p2
      have HP3 := Lib.hid p3
      have hin1 : (0 : Int) ≤ (i : Int) := by omega
      have hin2 : (i : Int) < (n : Int) := by omega
      clear p2 p3
      have HS := Lib.hid (fun j y (h0 : 0 ≤ y) (h1 : y ≤ 4294967295) => spoil_tells (w1 := w1) j y HNF.out hT5 (by omega) hNr.drew htell hbr.drew h0 h1)
      clear htell hNr htr
      go_wp2_with fail
      go_region_held3 (fun W : World => W.cell? ⟨(a.add (i * 5)).block, (a.add (i * 5)).off + 2, none⟩ = some (.int .i64 (f i).pos) ∧ W.cell? ⟨(a.add (i * 5)).block, (a.add (i * 5)).off + 3, none⟩ = some (.int .u32 (f i).by_)) (first | exact ⟨k2, k3⟩ | exact ⟨(hb5.cell (p := ⟨(a.add (i * 5)).block, (a.add (i * 5)).off + 2, none⟩) hab2).trans HP2.out, (hb5.cell (p := ⟨(a.add (i * 5)).block, (a.add (i * 5)).off + 3, none⟩) hab3).trans HP3.out⟩) ((go_at_call 18; refine (HS.out _ _ by0 by1).mono ?_; rintro e w5 ⟨r, F2, rfl, hrt, ht2, v5, hN5, hb5⟩))
      have HT2 := Lib.hid ht2
      have HN5 := Lib.hid hN5
      have HB5 := Lib.hid hb5
      clear ht2 hN5 hb5 HS k2 k3 HP2 HP3 hab2 hab3
      rename_i hHeld
      clear hHeld
      cases r with
      | true =>
        obtain rfl := hrt rfl
        go_wp2_with fail
        exact ⟨⟨i + 1, true, F2, v5, by omega, by omega, by go_num, rfl, HT2.out, HN5.out, HB5.out⟩, by simp [intOf]; omega⟩
      | false =>
        clear hrt
        rw [Bool.or_false] at HT2 HN5
        go_wp2_with fail
        exact ⟨⟨i + 1, t, F2, v5, by omega, by omega, by go_num, rfl, HT2.out, HN5.out, HB5.out⟩, by simp [intOf]; omega⟩
    · have hlt2 : (i : Int) < (n : Int) → ¬ (i : Int) < 20 := by omega
      have htk := take_some 0 ⟨1, 2, F', t⟩ hNr (by simp) (by rfl)
      unfold Fr.agg at htk
      have HTK := Lib.hid htk
      have hFs := htell.1
      have hop : ∃ r : ByteArray × Int, tup2 (openL (nums8 F')) = .tuple #[.string r.1, .int .i64 r.2] ∧ ((r.2 == 0) = !t) ∧ (t = false → r.1 = b) := by
        cases t with
        | false =>
          obtain rfl : F' = F := htell.2.1 rfl
          exact ⟨(b, 0), HOK.out, rfl, fun _ => rfl⟩
        | true =>
          obtain ⟨p, y, rfl, hne⟩ := htell.2.2 rfl
          have hbad := HSH.out p y hne
          rw [nums8_strOfNums _ (spoilTo_range _ _ _ _ HRG.out)]
          exact ⟨(_, _), rfl, by rw [Bool.not_true, beq_eq_false_iff_ne]; exact hbad, fun h => by cases h⟩
      obtain ⟨⟨rs, re⟩, ho1, ho2, ho3⟩ := hop
      have HO := Lib.hid ho1
      have HO3 := Lib.hid ho3
      have HNR := Lib.hid hNr
      have HBR := Lib.hid hbr
      clear htk htell ho1 ho3 hlt hNr hbr htr
      go_wp2_with fail
      all_goals
        refine HTK.out.mono ?_
        rintro e w5 ⟨rfl, hn5⟩
        obtain ⟨v6, _, hb6, _⟩ := Now.next HNR.out HBR.out hn5
        have HB6 := Lib.hid hb6
        clear hn5 hb6
        go_wp2_with fail
        have htk6 := (HT1.out.below (by omega) HB6.out)
        have hb7 : Below g w1 (w5.alloc (.cells #[.int .i64 1, .int .i64 2, .string F', .bool t] 45)) := HB6.out.alloc (by have := HB6.out.size; omega) _
        have ht7 := htk6.below htk6.1 ((Below.refl _ _).alloc (Nat.le_refl _) (.cells #[.int .i64 1, .int .i64 2, .string F', .bool t] 45))
        refine (open_calls F' _ (by omega) ht7).mono ?_
        rintro e w8 ⟨rfl, hb8⟩
        rw [HO.out]
        have hcell : w8.cell? ⟨w5.heap.size, 3, none⟩ = some (.bool t) := (hb8.cell (by simp)).trans (by simp)
        have hfin := hb7.trans (hb8.mono (by have := hb7.size; omega))
        have HFIN := Lib.hid (HB1.out.trans (hfin.mono (by have := HB1.out.size; omega)))
        clear hfin hb8 hb7 ht7 htk6
        cases t with
        | true =>
          rw [Bool.not_true] at ho2
          go_wp2
          go_ret
          exact ⟨rfl, HFIN.out⟩
        | false =>
          rw [Bool.not_false] at ho2
          obtain rfl := HO3.out rfl
          have k1 := toList_beq rs
          go_wp2
          go_ret
          exact ⟨rfl, HFIN.out⟩
end Go.Proofs.YtmmcigpbajlneaaDoor
