/- octets.Put and the reference's Put: the bytes of a number. -/
import Derived.Test.YtmmcigpbajlneaaDoorBase
import Derived.Test.YtmmcigpbajlneaaDoorOct
import Derived.Test.YtmmcigpbajlneaaDoorShelf
import Derived.Test.YtmmcigpbajlneaaDoorChecked
import Derived.Deep.QuietTactic
import Derived.BigQuiet
import Derived.WalkLawsBesides
import Derived.Outline
set_option linter.unusedVariables false
set_option linter.unusedSimpArgs false
namespace Go.Proofs.YtmmcigpbajlneaaDoor
open Go.RowKit
set_option maxRecDepth 100000

theorem infoByte : (Tryd.prog.info? 5).map (fun i => (i.zero, i.size, i.bytes)) = some (some (.int .u8 0), 1, 1) := by kernel_rfl

def bcells (xs : List Int) : List Value := xs.map (Value.int .u8)
theorem bcells_length (xs : List Int) : (bcells xs).length = xs.length := by simp [bcells]
theorem bcells_append (xs ys : List Int) : bcells (xs ++ ys) = bcells xs ++ bcells ys := by simp [bcells]

/-- A row of bytes of the call's own, as a string. -/
theorem run_own_string {W : World} {B n : Nat} {v : Value} {xs : List Int} (hn : xs.length = n) (h : W.ownsRow B 5 1 v n (bcells xs)) :
    Sem.run Tryd.prog (convert 32 9 v) W = .ok (.string (strOfNums xs)) W := by
  subst hn
  rcases h.2 with ⟨rfl, e⟩ | ⟨g, cap, cur, rfl, hb, hg, h1, h2, h3, h4⟩
  · have : xs = [] := List.eq_nil_of_length_eq_zero e
    subst this
    exact run_convert_bytes_nil W 32 5 Tryd.underlying32 Tryd.underlying5 0 0 9 Tryd.underlying9
  · refine run_convert_bytes_arg W 32 5 Tryd.underlying32 Tryd.underlying5 g 0 xs.length cap xs rfl (fun i hi => ?_) 9 Tryd.underlying9
    rw [Nat.zero_add, cells_cell hg, ← Array.getElem?_toList]
    have e : (cur.toList.take (xs.length * 1))[i]? = cur.toList[i]? := by rw [List.getElem?_take, if_pos (by omega)]
    rw [← e, h4]
    simp [bcells, List.getElem?_eq_getElem hi, List.getD_eq_getElem?_getD]

theorem run_one_byte (w : World) (x : Int) :
    Sem.run Tryd.prog (convert 32 9 (.slice (some ⟨w.heap.size, 0, none⟩) 1 1)) (w.alloc (.cells #[.int .u8 x] 5)) = .ok (.string (strOfNums [x])) (w.alloc (.cells #[.int .u8 x] 5)) := by
  refine run_convert_bytes_arg (P := Tryd.prog) _ 32 5 Tryd.underlying32 Tryd.underlying5 w.heap.size 0 1 1 [x] rfl (fun i hi => ?_) 9 Tryd.underlying9
  obtain rfl : i = 0 := by omega
  rw [cells_cell (heap_alloc_new w _)]
  rfl

theorem put_out (n : Int) (w : World) (h : n < -9007199254740992 ∨ 9007199254740992 < n) :
    Calls Tryd.prog 20 #[.int .i64 n] w fun e w' => e = .returned (.string (strOfNums (putL n))) ∧ Below w.heap.size w w' := by
  have e : strOfNums (putL n) = ⟨#[]⟩ := by unfold putL; rw [if_pos h]; rfl
  rw [e]
  rcases h with h | h
  · have h1 : decide (n < -9007199254740992) = true := by simpa using h
    go_enter Tryd.func20, Tryd.ntmps20
    go_wp2
    go_ret
    exact ⟨rfl, Below.refl _ _⟩
  · have h1 : decide (n < -9007199254740992) = false := by simp; omega
    have h2 : decide (9007199254740992 < n) = true := by simpa using h
    go_enter Tryd.func20, Tryd.ntmps20
    go_wp2
    go_ret
    exact ⟨rfl, Below.refl _ _⟩

set_option maxHeartbeats 1000000 in
theorem put_in (n : Int) (w : World) (h1 : -9007199254740992 ≤ n) (h2 : n ≤ 9007199254740992) :
    Calls Tryd.prog 20 #[.int .i64 n] w fun e w' => e = .returned (.string (strOfNums (putL n))) ∧ Below w.heap.size w w' := by
  obtain ⟨i0, hi0, hz0, hz1, hz2⟩ := info_parts infoByte
  have hput := putL_of n ⟨h1, h2⟩
  obtain ⟨m, hm⟩ : ∃ m : Nat, n.natAbs = m := ⟨_, rfl⟩
  rw [hm] at hput
  have hmb : m ≤ 9007199254740992 := by omega
  have h7 := blen7 hmb
  have hbl : ((Lib.bitLen m : Int) + 7) / 8 = (blen m : Int) := by
    have := bitLen_bytes m (by omega)
    omega
  have hL := Lib.hid (fun w1 : World => Tryd.bits_Len (m : Int) w1 (by omega) (by omega))
  rw [Int.toNat_natCast] at hL
  have hL64 : Lib.bitLen m ≤ 64 := by
    have := bitLen_bytes m (by omega)
    omega
  obtain ⟨sg, hsg, hs0, hs1⟩ : ∃ sg : Int, ((if n < 0 then 128 else 0) + (blen m : Int)) = sg ∧ (0 ≤ n → bits .or .u8 0 (blen m : Int) = sg) ∧ (n < 0 → bits .or .u8 128 (blen m : Int) = sg) := by
    refine ⟨_, rfl, fun h => ?_, fun h => ?_⟩
    · rw [if_neg (by omega), show (0 : Int) = ((0 : Nat) : Int) from rfl, u8_or_nat 0 _ (by omega) (by omega)]; simp
    · rw [if_pos h, u8_or128 _ (by omega) (by omega)]
  rw [hsg] at hput
  have HP := Lib.hid hput
  generalize putL n = pl at *
  clear hput hsg
  have hd1 : decide (n < -9007199254740992) = false := by simp; omega
  have hd2 : decide (9007199254740992 < n) = false := by simp; omega
  generalize blen m = k at *
  have hmk : ∀ W : World, (Instr.makeSlice 32 (.int .i64 0) (.int .i64 ((k : Int) + 1))).run Tryd.prog W = .ok (.slice (some ⟨W.heap.size, 0, none⟩) 0 (k + 1)) (W.alloc (.cells (madeCells #[.int .u8 0] (k + 1)) 5)) := by
    intro W
    have := run_make (P := Tryd.prog) W 32 5 i0 (.int .u8 0) Tryd.underlying32 hi0 hz0 .i64 .i64 0 ((k : Int) + 1) (by omega) (by omega) (by rw [hz2]; omega) (by omega)
    rw [hz1] at this
    simpa [Value.cells] using this
  have hsz : (madeCells #[Value.int .u8 0] (k + 1)).size = k + 1 := size_madeCells _ _
  have HSZ := Lib.hid hsz
  clear hsz
  generalize madeCells #[Value.int .u8 0] (k + 1) = mc at *
  have hcase : (∃ S : Int, n < 0 ∧ n = -(m : Int) ∧ bits .or .u8 128 (k : Int) = sg) ∨ (∃ S : Int, ¬ n < 0 ∧ n = (m : Int) ∧ bits .or .u8 0 (k : Int) = sg) := by
    by_cases hneg : n < 0
    · exact .inl ⟨0, hneg, by omega, hs1 hneg⟩
    · exact .inr ⟨0, hneg, by omega, hs0 (by omega)⟩
  clear hs0 hs1 hm
  rcases hcase with ⟨_, hneg, rfl, hor⟩ | ⟨_, hneg, rfl, hor⟩
  all_goals
    go_enter Tryd.func20, Tryd.ntmps20
    go_wp2_with fail
    refine (hL.out _).mono ?_
    rintro e w1 ⟨rfl, rfl⟩
    go_wp2_with (at_builtin; refine wpList_append_own _ rfl (.tmp 25) (.tmp 30) 32 rfl w1.heap.size 5 i0 (.int .u8 0) 1 1 Tryd.underlying32 hi0 hz0 hz1 hz2 rfl (by decide) (.slice (some ⟨w1.heap.size, 0, none⟩) 0 (k + 1)) 0 [] rfl ((World.ownsRow_made w1 mc (k + 1) (Nat.le_refl _) (by simp only [maxLen]; omega) (by rw [HSZ.out]; omega)).alloc _) ⟨w1.heap.size + 1, 0, none⟩ 1 1 [.int .u8 sg] rfl rfl ?c1 ?c2 ?c3 ?c4 ?c5 ?next)
    case c1 => exact World.news_of_block (cs := #[.int .u8 sg]) (t := 5) (fr := (0, 0)) (by simpa using heap_alloc_new (w1.alloc (.cells mc 5)) _)
    case c2 => intro u hu; simp only [List.mem_cons, List.not_mem_nil, or_false] at hu; rw [hu]; rfl
    case c3 => simp only [maxLen]; omega
    case c4 => omega
    case c5 => simp; omega
    case next =>
      intro v1 w2 hown hg _
      have hb : Below w1.heap.size w1 w2 := (((Below.refl _ _).alloc (Nat.le_refl _) _).alloc (by simp) _).grown hg (by simp; omega) (fun k hk => by simp [Value.ownBlock] at hk; omega)
      have HO := Lib.hid hown
      have HB := Lib.hid hb
      clear hown hg hb hmk
      go_wp2_with fail
      go_loopw [5, 6] (fun v iv wr => ∃ (j : Nat) (x : Int), j ≤ k ∧ iv = .int .i64 x ∧ x = (k : Int) - 1 - j ∧ wr.ownsRow w1.heap.size 5 1 v (j + 1) (bcells (sg :: (be k m).take j)) ∧ Below w1.heap.size w1 wr)
        (fun _ iv _ => (intOf iv + 1).toNat)
      case atStart => exact ⟨0, _, by omega, rfl, by omega, HO.out, HB.out⟩
      case round =>
        obtain ⟨j, x, hj, rfl, hx, hown, hbel⟩ := hrel
        have HO2 := Lib.hid hown
        have HB2 := Lib.hid hbel
        have hzz := hbel.size
        clear hown hbel
        by_cases hlt : j < k
        · obtain ⟨i, rfl⟩ : ∃ i : Nat, x = i := ⟨x.toNat, by omega⟩
          have hi : k - 1 - j = i := by omega
          have hI := Lib.hid hi
          have hix : i ≤ 6 := by omega
          clear hi hx
          have hbyte : (m : Int) / 2 ^ (8 * i) % 256 = ((m / 256 ^ (k - 1 - j) % 256 : Nat) : Int) := by
            rw [hI.out]
            simp only [Int.natCast_emod, Int.natCast_ediv, Int.natCast_pow]
            rw [show (2 : Int) ^ (8 * i) = 256 ^ i by rw [Int.pow_mul]; rfl]
            rfl
          have HBY := Lib.hid hbyte
          clear hbyte
          go_wp2_with (at_builtin; refine wpList_append_own _ rfl (.tmp 38) (.tmp 44) 32 rfl w1.heap.size 5 i0 (.int .u8 0) 1 1 Tryd.underlying32 hi0 hz0 hz1 hz2 rfl (by decide) u5 (j + 1) (bcells (sg :: (be k m).take j)) rfl (HO2.out.alloc _) ⟨wr.heap.size, 0, none⟩ 1 1 [.int .u8 ((m : Int) / 2 ^ (8 * i) % 256)] rfl rfl ?d1 ?d2 ?d3 ?d4 ?d5 ?nxt)
          case d1 => exact World.news_of_block (cs := #[.int .u8 ((m : Int) / 2 ^ (8 * i) % 256)]) (t := 5) (fr := (0, 0)) (heap_alloc_new wr _)
          case d2 => intro u hu; simp only [List.mem_cons, List.not_mem_nil, or_false] at hu; rw [hu]; rfl
          case d3 => simp only [maxLen]; omega
          case d4 => omega
          case d5 => simp; omega
          case nxt =>
            intro v2 w3 hown hg _
            have hbel : Below w1.heap.size w1 w3 := ((HB2.out).alloc hzz _).grown hg (by simp; omega) (fun q hq => (HO2.out.lt q hq).1)
            have e1 : bcells (sg :: (be k m).take j) ++ [Value.int .u8 ((m : Int) / 2 ^ (8 * i) % 256)] = bcells (sg :: (be k m).take (j + 1)) := by
              rw [be_take_succ k m j hlt, ← List.cons_append, bcells_append, HBY.out]
              rfl
            rw [e1] at hown
            have HO3 := Lib.hid hown
            have HB3 := Lib.hid hbel
            have hI2 := hI.out
            clear hown hbel hg e1 hI2
            go_wp2
            go_roundw
            case rel =>
              have hI2 := hI.out
              exact ⟨j + 1, _, by omega, rfl, by omega, HO3.out, HB3.out⟩
            case measure => simp [intOf]
        · obtain rfl : j = k := by omega
          have hstr := run_own_string (by rw [List.length_cons, List.length_take, be_length]; omega) HO2.out
          rw [List.take_of_length_le (by rw [be_length]; exact Nat.le_refl _), ← HP.out] at hstr
          go_wp2
          go_ret
          exact ⟨rfl, HB2.out⟩

theorem put_calls (n : Int) (w : World) :
    Calls Tryd.prog 20 #[.int .i64 n] w fun e w' => e = .returned (.string (strOfNums (putL n))) ∧ Below w.heap.size w w' := by
  by_cases h : n < -9007199254740992 ∨ 9007199254740992 < n
  · exact put_out n w h
  · exact put_in n w (by omega) (by omega)

theorem rput_out (n : Int) (w : World) (h : n < -9007199254740992 ∨ 9007199254740992 < n) :
    Calls Tryd.prog 23 #[.int .i64 n] w fun e w' => e = .returned (.string (strOfNums (putL n))) ∧ Below w.heap.size w w' := by
  have e : strOfNums (putL n) = ⟨#[]⟩ := by unfold putL; rw [if_pos h]; rfl
  rw [e]
  rcases h with h | h
  · have h1 : decide (n < -9007199254740992) = true := by simpa using h
    go_enter Tryd.func23, Tryd.ntmps23
    go_wp2
    go_ret
    exact ⟨rfl, Below.refl _ _⟩
  · have h1 : decide (n < -9007199254740992) = false := by simp; omega
    have h2 : decide (9007199254740992 < n) = true := by simpa using h
    go_enter Tryd.func23, Tryd.ntmps23
    go_wp2
    go_ret
    exact ⟨rfl, Below.refl _ _⟩

set_option maxHeartbeats 1000000 in
theorem rput_in (n : Int) (w : World) (h1 : -9007199254740992 ≤ n) (h2 : n ≤ 9007199254740992) :
    Calls Tryd.prog 23 #[.int .i64 n] w fun e w' => e = .returned (.string (strOfNums (putL n))) ∧ Below w.heap.size w w' := by
  have hput := putL_of n ⟨h1, h2⟩
  obtain ⟨m, hm⟩ : ∃ m : Nat, n.natAbs = m := ⟨_, rfl⟩
  rw [hm] at hput
  have hmb : m ≤ 9007199254740992 := by omega
  have h7 := blen7 hmb
  have HP := Lib.hid hput
  generalize putL n = pl at *
  clear hput
  have hd1 : decide (n < -9007199254740992) = false := by simp; omega
  have hd2 : decide (9007199254740992 < n) = false := by simp; omega
  have hcase : (∃ S : Int, S = 128 ∧ n < 0 ∧ n = -(m : Int)) ∨ (∃ S : Int, S = 0 ∧ ¬ n < 0 ∧ n = (m : Int)) := by
    by_cases hneg : n < 0
    · exact .inl ⟨128, rfl, hneg, by omega⟩
    · exact .inr ⟨0, rfl, hneg, by omega⟩
  clear hm
  rcases hcase with ⟨S, hS, hneg, rfl⟩ | ⟨S, hS, hneg, rfl⟩
  all_goals
    have HS := Lib.hid hS
    clear hS
    have HPS : Hid (pl = (S + (blen m : Int)) :: be (blen m) m) := by
      show _ = _
      rw [HP.out, HS.out]
      first | rw [if_pos hneg] | rw [if_neg hneg]
    clear HP
    go_enter Tryd.func23, Tryd.ntmps23
    go_wp2_with fail
    go_loopw [0, 4] (fun nv sv wr => ∃ t : Nat, t ≤ blen m ∧ nv = .int .i64 ((m / 256 ^ t : Nat) : Int) ∧ sv = .string (strOfNums (be t m)) ∧ Below w.heap.size w wr)
      (fun nv _ _ => (intOf nv).toNat)
    case atStart => exact ⟨0, by omega, by simp, rfl, Below.refl _ _⟩
    case round =>
      obtain ⟨t, ht, rfl, rfl, hb⟩ := hrel
      have HB := Lib.hid hb
      have hzz := hb.size
      clear hb
      have hsz : (strOfNums (be t m)).size = t := by rw [strOfNums_size, be_length]
      have hdec : ∀ q : Nat, m / 256 ^ t = q → m / 256 ^ (t + 1) = q / 256 := fun q hq => by rw [← hq, Nat.pow_succ, Nat.div_div_eq_div_mul]
      have hle : m / 256 ^ t ≤ 9007199254740992 := Nat.le_trans (Nat.div_le_self _ _) hmb
      have hpos : 0 < m / 256 ^ t ↔ t < blen m := by
        constructor
        · intro h
          rcases Nat.lt_or_ge t (blen m) with h' | h'
          · exact h'
          · have := lt_blen m
            have : m < 256 ^ t := Nat.lt_of_lt_of_le this (Nat.pow_le_pow_right (by decide) h')
            rw [Nat.div_eq_of_lt this] at h
            omega
        · intro h
          exact Nat.div_pos (le_of_lt_blen h) (Nat.pow_pos (by decide))
      have hbe : ∀ q : Nat, m / 256 ^ t = q → be (t + 1) m = ((q % 256 : Nat) : Int) :: be t m := fun q hq => by rw [be_succ, hq]
      generalize hq : m / 256 ^ t = q at *
      have HQ := Lib.hid hq
      have HDEC := Lib.hid (hdec q rfl)
      have HBE := Lib.hid (hbe q rfl)
      clear hdec hbe hq
      generalize hst : strOfNums (be t m) = s at *
      have HST := Lib.hid hst
      clear hst
      by_cases hlt : t < blen m
      · have hq0 : 0 < q := hpos.2 hlt
        have HPOS := Lib.hid hpos
        clear hpos
        have kd := fun x => run_one_byte wr x
        have k1 := fun x : Int => (show (strOfNums [x]).size = 1 from strOfNums_size [x])
        go_wp2
        go_roundw
        case rel =>
          refine ⟨t + 1, by omega, by rw [HDEC.out]; simp, ?_, HB.out.alloc hzz _⟩
          rw [HBE.out, ← HST.out, ← strOfNums_append]
          simp
        case measure => simp [intOf]; omega
      · have hq0 : q = 0 := by have := mt hpos.1 hlt; omega
        subst hq0
        obtain rfl : t = blen m := by omega
        clear hpos hlt
        have kd := fun x => run_one_byte wr x
        have k1 := fun x : Int => (show (strOfNums [x]).size = 1 from strOfNums_size [x])
        go_wp2
        go_ret
        refine ⟨?_, HB.out.alloc hzz _⟩
        rw [HPS.out, HS.out, ← HST.out, ← strOfNums_append]
        simp
end Go.Proofs.YtmmcigpbajlneaaDoor
