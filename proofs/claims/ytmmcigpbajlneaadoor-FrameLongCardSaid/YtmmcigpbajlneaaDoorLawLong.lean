/- FrameLong, walked. -/
import Derived.Test.YtmmcigpbajlneaaDoorLawsA
import Derived.Laws.MakeOwn
import Derived.Laws.OwnMore
set_option linter.unusedVariables false
set_option linter.unusedSimpArgs false
namespace Go.Proofs.YtmmcigpbajlneaaDoor
open Go.RowKit
set_option maxRecDepth 100000

theorem i64_and15 (n : Int) : bits .and .i64 n 15 = n % 16 := by
  have h15 : (BitVec.ofInt 64 15).toNat = 2 ^ 4 - 1 := by decide
  have key : (BitVec.ofInt 64 n &&& BitVec.ofInt 64 15).toNat = (n % ((2 ^ 64 : Nat) : Int)).toNat % 2 ^ 4 := by
    rw [BitVec.toNat_and, BitVec.toNat_ofInt, h15, Nat.and_two_pow_sub_one_eq_mod]
  show IntKind.i64.wrap ((BitVec.ofInt 64 n &&& BitVec.ofInt 64 15).toNat : Nat) = n % 16
  rw [key, IntKind.wrap_i64]
  omega
theorem wrapL_length (l : List Int) (h : l.length ≤ 1048576) : (wrapL l).length = (putL l.length).length + l.length + 4 := by
  unfold wrapL
  rw [if_neg (by omega)]
  simp [seal4_length]
  omega
theorem putL_len4 (m : Nat) (h1 : 65536 ≤ m) (h2 : m < 16777216) : (putL (m : Int)).length = 4 := by
  rw [putL_of _ (by omega), List.length_cons, be_length, Int.natAbs_natCast, blen_eq (m := m) (k := 3) (by omega) (.inr (by omega))]
/-- n bytes of nothing, as a string. -/
theorem run_zeros (w : World) (n : Nat) : Sem.run Tryd.prog (convert 32 9 (.slice (some ⟨w.heap.size, 0, none⟩) n n)) (w.alloc (.cells (madeCells #[.int .u8 0] n) 5)) = .ok (.string (strOfNums (List.replicate n 0))) (w.alloc (.cells (madeCells #[.int .u8 0] n) 5)) := by
  refine run_convert_bytes_arg (P := Tryd.prog) _ 32 5 Tryd.underlying32 Tryd.underlying5 w.heap.size 0 n n (List.replicate n 0) (by simp) (fun q hq => ?_) 9 Tryd.underlying9
  rw [Nat.zero_add, cells_cell (heap_alloc_new w _), ← Array.getElem?_toList, toList_madeCells_one]
  simp [List.getElem?_replicate, hq, List.getD_eq_getElem?_getD]

theorem long_calls (n : Int) (w : World) (ht : TabAt w) :
    Calls Tryd.prog 6 #[.int .i64 n] w fun e w' => e = .returned (.bool true) ∧ Below w.heap.size w w' := by
  have hand := i64_and15 n
  obtain ⟨m, hm, hm2, hm3⟩ : ∃ m : Nat, (1048570 : Int) + n % 16 = m ∧ 1048570 ≤ m ∧ m ≤ 1048585 := ⟨(1048570 + n % 16).toNat, by omega, by omega, by omega⟩
  have h16 : 0 ≤ n % 16 := by omega
  have h17 : n % 16 < 16 := by omega
  go_enter Tryd.func6, Tryd.ntmps6
  go_wp2_with fail
  refine (fspeaks_calls _ ht).mono ?_
  rintro e w1 ⟨rfl, hb1⟩
  have ht1 := ht.below ht.1 hb1
  have hmk : ∀ W : World, (Instr.makeSlice 32 (.int .i64 (m : Int)) (.int .i64 (m : Int))).run Tryd.prog W = .ok (.slice (some ⟨W.heap.size, 0, none⟩) m m) (W.alloc (.cells (madeCells #[.int .u8 0] m) 5)) := by
    intro W
    have hi : ∃ i, Tryd.prog.info? 5 = some i ∧ i.zero = some (.int .u8 0) ∧ i.size = 1 ∧ i.bytes = 1 := by
      have := infoByte
      cases hh : Tryd.prog.info? 5 with
      | none => rw [hh] at this; simp at this
      | some i => rw [hh] at this; simp at this; exact ⟨i, rfl, this⟩
    obtain ⟨i, h1, h2, h3, h4⟩ := hi
    have := run_make W 32 5 i (.int .u8 0) Tryd.underlying32 h1 h2 .i64 .i64 (m : Int) (m : Int) (by omega) (by omega) (by rw [h4]; omega) (by omega)
    rw [h3, Nat.mul_one, Int.toNat_natCast] at this
    exact this
  have hz := fun W => run_zeros W m
  have hsz : (strOfNums (List.replicate m 0)).size = m := by rw [strOfNums_size, List.length_replicate]
  generalize strOfNums (List.replicate m 0) = S at *
  go_wp2_with fail
  have ht2 : TabAt (w1.alloc (.cells (madeCells #[.int .u8 0] m) 5)) := ht1.below ht1.1 ((Below.refl _ _).alloc (Nat.le_refl _) _)
  have hb2 : Below w.heap.size w (w1.alloc (.cells (madeCells #[.int .u8 0] m) 5)) := hb1.alloc hb1.size _
  refine (wrap_calls S _ (by omega) ht2).mono ?_
  rintro e w3 ⟨rfl, hb3⟩
  have ht3 := ht2.below ht2.1 hb3
  have hb13 := hb2.trans (hb3.mono hb2.size)
  by_cases hbig : 1048576 < m
  · have he : strOfNums (wrapL (nums8 S)) = ⟨#[]⟩ := by
      unfold wrapL
      rw [nums8_length, if_pos (by omega)]
      rfl
    rw [he]
    go_wp2
    go_ret
    exact ⟨rfl, hb13⟩
  · have hfs : (strOfNums (wrapL (nums8 S))).size = m + 8 := by
      rw [strOfNums_size, wrapL_length _ (by rw [nums8_length]; omega), nums8_length, hsz, putL_len4 m (by omega) (by omega)]
      omega
    have hop := tup2_open S (by omega)
    generalize strOfNums (wrapL (nums8 S)) = F at *
    have HOP := Lib.hid hop
    clear hop
    go_wp2_with fail
    refine (open_calls F _ (by omega) ht3).mono ?_
    rintro e w4 ⟨rfl, hb4⟩
    rw [HOP.out]
    have k1 := toList_beq S
    go_wp2
    go_ret
    exact ⟨rfl, hb13.trans (hb4.mono hb13.size)⟩
end Go.Proofs.YtmmcigpbajlneaaDoor
