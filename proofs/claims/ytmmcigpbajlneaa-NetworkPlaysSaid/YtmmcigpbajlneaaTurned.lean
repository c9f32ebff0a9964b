/- The reference's Place and Turned: what they answer. -/
import Derived.Test.YtmmcigpbajlneaaNetSpeaks
set_option linter.unusedVariables false
set_option linter.unusedSimpArgs false
namespace Go.Proofs.Ytmmcigpbajlneaa
open Go.RowKit
set_option maxRecDepth 100000

theorem place_calls (i : Int) (n : Nat) (w : World) (h1 : 1 ≤ n) (h2 : n ≤ 100000) :
    Calls Try.prog 7 #[.int .i64 i, .int .i64 n] w fun e w' => e = .returned (.int .i64 (place i n : Nat)) ∧ w' = w := by
  have a1 := Int.tmod_lt_of_pos i (show (0 : Int) < n by omega)
  have a2 := Int.lt_tmod_of_pos i (show (0 : Int) < n by omega)
  have e2 : i.tmod n = i + n * (-(i.tdiv n)) := by
    have := Int.mul_tdiv_add_tmod i n
    rw [Int.mul_neg]
    omega
  have e3 : (i.tmod n) % n = i % n := by rw [e2, Int.add_mul_emod_self_left]
  have e4 : ((place i n : Nat) : Int) = i % (n : Int) := by
    have := Int.emod_nonneg i (show (n : Int) ≠ 0 by omega)
    unfold place
    omega
  have H : Hid (((place i n : Nat) : Int) = if i.tmod n < 0 then i.tmod n + n else i.tmod n) := by
    show _ = _
    rw [e4, ← e3]
    split
    · rw [← Int.add_emod_right, Int.emod_eq_of_lt (by omega) (by omega)]
    · rw [Int.emod_eq_of_lt (by omega) (by omega)]
  clear e2 e3 e4
  by_cases hneg : i.tmod n < 0
  · go_enter Try.func7, Try.ntmps7
    go_wp2
    go_ret
    rw [H.out, if_pos hneg]
    exact ⟨rfl, rfl⟩
  · go_enter Try.func7, Try.ntmps7
    go_wp2
    go_ret
    rw [H.out, if_neg (by omega)]
    exact ⟨rfl, rfl⟩

theorem run_one_byte (w : World) (x : Int) :
    Sem.run Try.prog (convert 47 9 (.slice (some ⟨w.heap.size, 0, none⟩) 1 1)) (w.alloc (.cells #[.int .u8 x] 5)) = .ok (.string (strOfNums [x])) (w.alloc (.cells #[.int .u8 x] 5)) := by
  refine run_convert_bytes_arg (P := Try.prog) _ 47 5 Try.underlying47 Try.underlying5 w.heap.size 0 1 1 [x] rfl (fun i hi => ?_) 9 Try.underlying9
  obtain rfl : i = 0 := by omega
  rw [cells_cell (heap_alloc_new w _)]
  rfl

theorem strOfNums_snoc (xs : List Int) (x : Int) : strOfNums (xs ++ [x]) = strOfNums xs ++ strOfNums [x] := by
  apply WideShapes.bytes_inj
  simp [strOfNums]

theorem spoilTo_get (s : ByteArray) (p : Nat) (y : Int) (k : Nat) (hk : k < s.size) (x : Int)
    (h1 : p ≤ k → k < p + 4 → x = bits .xor .u8 (s[k].toNat : Int) (y / 2 ^ (8 * (k - p)) % 256)) (h2 : ¬ (p ≤ k ∧ k < p + 4) → x = (s[k].toNat : Int)) :
    (spoilTo (nums8 s) p y (p + 4)).take (k + 1) = (spoilTo (nums8 s) p y (p + 4)).take k ++ [x] := by
  have hk' : k < (spoilTo (nums8 s) p y (p + 4)).length := by rw [spoilTo_length, nums8_length]; exact hk
  rw [List.take_succ_eq_append_getElem hk']
  congr 2
  simp only [spoilTo, List.getElem_mapIdx, nums8, List.getElem_map]
  by_cases e : p ≤ k ∧ k < p + 4
  · rw [if_pos e, h1 e.1 e.2]
    simp [byteAt, show (2 : Int) ^ (8 * (k - p)) = 256 ^ (k - p) by rw [Int.pow_mul]; rfl]
    rfl
  · rw [if_neg e, h2 e]
    rfl

theorem turned_same (f : Fr) (j y : Int) (w : World) (hs : f.s.size = 0 ∨ f.t = true) :
    Calls Try.prog 10 #[f.agg, .int .i64 j, .int .u32 y] w fun e w' => e = .returned (.tuple #[f.agg, .bool false]) ∧ Below w.heap.size w w' := by
  unfold Fr.agg
  by_cases h0 : f.s.size = 0
  · have h1 : ((f.s.size : Int) == 0) = true := by rw [beq_iff_eq]; omega
    clear h0 hs
    go_enter Try.func10, Try.ntmps10
    go_wp2
    refine bodyPost_ret (v := .tuple #[.agg #[.int .i64 f.a, .int .i64 f.b, .string f.s, .bool f.t], .bool false]) (by simp [results, Try.results10, go_sem]) rfl ⟨rfl, ?_⟩
    exact ((Below.refl _ _).alloc (Nat.le_refl _) _).alloc (by simp) _
  · have ht : f.t = true := hs.resolve_left h0
    have h1 : ((f.s.size : Int) == 0) = false := by rw [beq_eq_false_iff_ne]; omega
    rw [ht]
    clear h0 hs ht
    go_enter Try.func10, Try.ntmps10
    go_wp2
    refine bodyPost_ret (v := .tuple #[.agg #[.int .i64 f.a, .int .i64 f.b, .string f.s, .bool true], .bool false]) (by simp [results, Try.results10, go_sem]) rfl ⟨rfl, ?_⟩
    exact ((Below.refl _ _).alloc (Nat.le_refl _) _).alloc (by simp) _

theorem turned_calls (f : Fr) (j y : Int) (w : World) (hs : f.s.size ≠ 0) (ht : f.t = false) (hy0 : 0 ≤ y) (hy1 : y ≤ 4294967295) (hsz : f.s.size ≤ 100000) :
    Calls Try.prog 10 #[f.agg, .int .i64 j, .int .u32 y] w fun e w' =>
      e = .returned (if ((spoilt f.s j y).toList == f.s.toList) = true then .tuple #[f.agg, .bool false] else .tuple #[(Fr.mk f.a f.b (spoilt f.s j y) true).agg, .bool true]) ∧ Below w.heap.size w w' := by
  unfold Fr.agg
  rw [ht]
  have hR := Lib.hid (fun w1 : World => place_calls j f.s.size w1 (by omega) hsz)
  have hspo : spoilt f.s j y = strOfNums (spoilTo (nums8 f.s) (place j f.s.size) y (place j f.s.size + 4)) := rfl
  generalize hss : spoilt f.s j y = ss at *
  have HS := Lib.hid hspo
  clear hspo hss
  generalize hpost : (if (ss.toList == f.s.toList) = true then Value.tuple #[Value.agg #[.int .i64 f.a, .int .i64 f.b, .string f.s, .bool false], .bool false] else .tuple #[Value.agg #[.int .i64 f.a, .int .i64 f.b, .string ss, .bool true], .bool true]) = post
  have HP := Lib.hid hpost
  clear hpost
  go_enter Try.func10, Try.ntmps10
  go_wp2_with fail
  refine (hR.out _).mono ?_
  rintro e w1 ⟨rfl, rfl⟩
  go_wp2_with fail
  have hp := place_lt j (show 0 < f.s.size by omega)
  generalize place j f.s.size = p at *
  go_loopw [10, 11, 12] (fun sv kv _ wr => ∃ k : Nat, k ≤ f.s.size ∧ kv = .int .i64 k ∧ sv = .string (strOfNums ((spoilTo (nums8 f.s) p y (p + 4)).take k)) ∧ Below (w.heap.size + 2) ((w.alloc (.cells #[.int .i64 f.a, .int .i64 f.b, .string f.s, .bool false] 30)).alloc (.cells #[.int .i64 0, .int .i64 0, .string ⟨#[]⟩, .bool false] 30)) wr)
    (fun _ kv _ _ => f.s.size - (intOf kv).toNat)
  case atStart => exact ⟨0, by omega, rfl, by simp [strOfNums], Below.refl _ _⟩
  case round =>
    obtain ⟨k, hk, rfl, rfl, hb⟩ := hrel
    have hc2 : wr.cell? ⟨w.heap.size, 2, none⟩ = some (.string f.s) := (hb.cell (by simp)).trans (by simp)
    have HB := Lib.hid hb
    have hz := hb.size
    simp only [World.size_alloc] at hz
    clear hb
    generalize hS : strOfNums ((spoilTo (nums8 f.s) p y (p + 4)).take k) = S
    have HSS := Lib.hid hS
    have hSz : S.size ≤ 100000 := by
      rw [← hS, strOfNums_size, List.length_take, spoilTo_length, nums8_length]
      omega
    have k1 := fun x : Int => (show (strOfNums [x]).size = 1 from strOfNums_size [x])
    clear hS
    by_cases hlt : k < f.s.size
    · have kd := fun x => run_one_byte wr x
      by_cases hin : p ≤ k ∧ k < p + 4
      · obtain ⟨i1, i2⟩ := hin
        have i3 : decide ((k : Int) - p < 4) = true := by simp; omega
        go_wp2
        go_roundw
        case rel =>
          refine ⟨k + 1, by omega, by go_num, ?_, HB.out.alloc (by omega) _⟩
          rw [spoilTo_get f.s p y k hlt _ (fun _ _ => rfl) (fun h => absurd ⟨i1, i2⟩ h), strOfNums_snoc, HSS.out]
        case measure => simp [intOf]; omega
      · by_cases hp1 : p ≤ k
        · have i3 : decide ((k : Int) - p < 4) = false := by simp; omega
          go_wp2
          go_roundw
          case rel =>
            refine ⟨k + 1, by omega, by go_num, ?_, HB.out.alloc (by omega) _⟩
            rw [spoilTo_get f.s p y k hlt _ (fun h1 h2 => absurd ⟨h1, h2⟩ hin) (fun _ => rfl), strOfNums_snoc, HSS.out]
          case measure => simp [intOf]; omega
        · have i3 : decide (p ≤ k) = false := by simp; omega
          have i4 : decide ((p : Int) ≤ k) = false := by simp; omega
          go_wp2
          go_roundw
          case rel =>
            refine ⟨k + 1, by omega, by go_num, ?_, HB.out.alloc (by omega) _⟩
            rw [spoilTo_get f.s p y k hlt _ (fun h1 h2 => absurd ⟨h1, h2⟩ hin) (fun _ => rfl), strOfNums_snoc, HSS.out]
          case measure => simp [intOf]; omega
    · have hkk : (spoilTo (nums8 f.s) p y (p + 4)).take k = spoilTo (nums8 f.s) p y (p + 4) := List.take_of_length_le (by rw [spoilTo_length, nums8_length]; omega)
      rw [hkk, ← HS.out] at HSS
      have hss2 := HSS.out
      subst hss2
      have kA : wr.heap[w.heap.size]? = some (.cells #[.int .i64 f.a, .int .i64 f.b, .string f.s, .bool false] 30 (0, 0)) := (HB.out.block _ (by omega)).trans (heap_alloc2_old _ _ _)
      have kR : wr.heap[w.heap.size + 1]? = some (.cells #[.int .i64 0, .int .i64 0, .string ⟨#[]⟩, .bool false] 30 (0, 0)) := (HB.out.block _ (by omega)).trans (heap_alloc2_new _ _ _)
      have a0 : wr.cell? ⟨w.heap.size, 0, none⟩ = some (.int .i64 f.a) := cells_cell kA 0
      have a1 : wr.cell? ⟨w.heap.size, 1, none⟩ = some (.int .i64 f.b) := cells_cell kA 1
      have a3 : wr.cell? ⟨w.heap.size, 3, none⟩ = some (.bool false) := cells_cell kA 3
      have r0 : wr.cell? ⟨w.heap.size + 1, 0, none⟩ = some (.int .i64 0) := cells_cell kR 0
      have r1 : wr.cell? ⟨w.heap.size + 1, 1, none⟩ = some (.int .i64 0) := cells_cell kR 1
      have r2 : wr.cell? ⟨w.heap.size + 1, 2, none⟩ = some (.string ⟨#[]⟩) := cells_cell kR 2
      have r3 : wr.cell? ⟨w.heap.size + 1, 3, none⟩ = some (.bool false) := cells_cell kR 3
      have z0 := cells_frozen kR 0
      have z1 := cells_frozen kR 1
      have z2 := cells_frozen kR 2
      have z3 := cells_frozen kR 3
      have hbb : Hid (Below w.heap.size w wr) := (((Below.refl _ _).alloc (Nat.le_refl _) _).alloc (by simp) _).trans (HB.out.mono (by omega))
      clear kA kR k1
      cases heb : (ss.toList == f.s.toList)
      · go_wp2
        refine bodyPost_ret (v := .tuple #[.agg #[.int .i64 f.a, .int .i64 f.b, .string ss, .bool true], .bool true]) (by simp [results, Try.results10, go_sem, r0, r1, r2, r3]) rfl ⟨?_, ?_⟩
        · rw [← HP.out, heb]; rfl
        · exact (((hbb.out.setCell (by simp) _).setCell (by simp) _).setCell (by simp) _).setCell (by simp) _
      · go_wp2
        refine bodyPost_ret (v := .tuple #[.agg #[.int .i64 f.a, .int .i64 f.b, .string f.s, .bool false], .bool false]) (by simp [results, Try.results10, go_sem, r0, r1, r2, r3]) rfl ⟨?_, ?_⟩
        · rw [← HP.out, heb]; rfl
        · exact (((hbb.out.setCell (by simp) _).setCell (by simp) _).setCell (by simp) _).setCell (by simp) _
end Go.Proofs.Ytmmcigpbajlneaa
