/- octets.Get and the reference's Get: the number at the head of bytes. -/
import Derived.Test.YtmmcigpbajlneaaDoorPut
import Derived.Deep.RegionHeld3
set_option linter.unusedVariables false
set_option linter.unusedSimpArgs false
namespace Go.Proofs.YtmmcigpbajlneaaDoor
open Go.RowKit
set_option maxRecDepth 100000

theorem nums8_get (s : ByteArray) (i : Nat) (h : i < s.size) : (nums8 s)[i]? = some (s[i].toNat : Int) := by
  unfold nums8
  rw [List.getElem?_map, List.getElem?_eq_getElem (by simpa using h)]
  rfl
theorem nums8_cons (s : ByteArray) (h : 0 < s.size) : nums8 s = (s[0].toNat : Int) :: (nums8 s).tail := by
  have := nums8_get s 0 h
  cases hl : nums8 s with
  | nil => rw [hl] at this; simp at this
  | cons x l => rw [hl] at this; simp at this; rw [this]; rfl
theorem tail_get (s : ByteArray) (i : Nat) (h : i + 1 < s.size) : (nums8 s).tail[i]? = some (s[i + 1].toNat : Int) := by
  rw [List.getElem?_tail, nums8_get s (i + 1) h]
theorem tail_len (s : ByteArray) : (nums8 s).tail.length = s.size - 1 := by rw [List.length_tail, nums8_length]

/-- Three results, as a tuple. -/
def tup3 (r : Int × Int × Int) : Value := .tuple #[.int .i64 r.1, .int .i64 r.2.1, .int .i64 r.2.2]

theorem beVal_take_succ (t : List Int) (j : Nat) (x : Int) (h : t[j]? = some x) : beVal (t.take (j + 1)) = 256 * beVal (t.take j) + x := by
  obtain ⟨hj, rfl⟩ := List.getElem?_eq_some_iff.1 h
  rw [List.take_succ_eq_append_getElem hj, beVal_snoc]

theorem i64_or8 (a x : Int) (h0 : 0 ≤ a) (h1 : a < 36028797018963968) (hx0 : 0 ≤ x) (hx1 : x < 256) : bits .or .i64 (a * 256) x = 256 * a + x := by
  rw [bits_join .i64 63 (by decide) (fun n h0 h1 => by rw [IntKind.wrap_i64]; omega) 8 (a * 256) x (by omega) (by omega) (by omega) hx0 (by omega) (by omega)]
  omega

theorem getL_cons (h : Int) (t : List Int) : getL (h :: t) = if 7 < h % 128 ∨ h = 128 then (0, 0, 2) else if (t.length : Int) < h % 128 then (0, 0, 3)
    else if 9007199254740992 < beVal (t.take (h % 128).toNat) ∨ (0 < h % 128 ∧ t.head? = some 0) then (0, 0, 2)
    else (if 127 < h then -beVal (t.take (h % 128).toNat) else beVal (t.take (h % 128).toNat), h % 128 + 1, 0) := rfl

/-- The answer, told by the first byte and its part. -/
theorem getL_parts (b0 k n : Nat) (t : List Int) (hk : b0 % 128 = k) (hn : t.length = n - 1) (hpos : 0 < n) :
    getL ((b0 : Int) :: t) = if 7 < k ∨ b0 = 128 then (0, 0, 2) else if n ≤ k then (0, 0, 3) else if 9007199254740992 < beVal (t.take k) ∨ (0 < k ∧ t.head? = some 0) then (0, 0, 2) else (if 128 ≤ b0 then -beVal (t.take k) else beVal (t.take k), (k : Int) + 1, 0) := by
  have hkb : (b0 : Int) % 128 = (k : Int) := by omega
  rw [getL_cons, hkb, Int.toNat_natCast, hn]
  have c1 : (7 < (k : Int) ∨ (b0 : Int) = 128) ↔ (7 < k ∨ b0 = 128) := by omega
  have c2 : (((n - 1 : Nat) : Int) < (k : Int)) ↔ n ≤ k := by omega
  have c3 : (0 < (k : Int)) ↔ 0 < k := by omega
  have c4 : (127 < (b0 : Int)) ↔ 128 ≤ b0 := by omega
  simp only [c1, c2, c3, c4]

theorem ret_tup3 {a b c : Int} {r : Int × Int × Int} (h : r = (a, b, c)) : Ending.returned (.tuple #[.int .i64 a, .int .i64 b, .int .i64 c]) = Ending.returned (tup3 r) := by rw [h]; rfl

set_option maxHeartbeats 2000000 in
theorem get_calls (s : ByteArray) (w : World) (hs : s.size ≤ 9223372036854775807) :
    Calls Tryd.prog 22 #[.string s] w fun e w' => e = .returned (tup3 (getL (nums8 s))) ∧ Below w.heap.size w w' := by
  by_cases h0 : s.size = 0
  · have hz : s = ⟨#[]⟩ := by
      apply WideShapes.bytes_inj
      exact List.eq_nil_of_length_eq_zero (by simpa using h0)
    subst hz
    go_enter Tryd.func22, Tryd.ntmps22
    go_wp2
    go_ret3
    exact ⟨rfl, Below.refl _ _⟩
  · have hpos : 0 < s.size := by omega
    have hie := isEmpty_false s h0
    have hcons := nums8_cons s hpos
    obtain ⟨b0, hb0⟩ : ∃ b0 : Nat, s[0].toNat = b0 := ⟨_, rfl⟩
    have hlt := (s[0]'hpos).toNat_lt
    rw [hb0] at hcons hlt
    clear h0
    have han : bits .andNot .u8 (b0 : Int) 128 = ((b0 % 128 : Nat) : Int) := by
      rw [show (128 : Int) = ((128 : Nat) : Int) from rfl, u8_andNot_nat b0 128 (by omega) (by omega)]
      rw [show 255 - 128 = 2 ^ 7 - 1 from rfl, Nat.and_two_pow_sub_one_eq_mod]
    have had : bits .and .u8 (b0 : Int) 128 = if 128 ≤ b0 then 128 else 0 := by
      have key : ∀ n : Fin 256, ((n.val &&& 128 : Nat) : Int) = if 128 ≤ n.val then 128 else 0 := by decide +kernel
      rw [show (128 : Int) = ((128 : Nat) : Int) from rfl, u8_and_nat b0 128 (by omega) (by omega)]
      exact key ⟨b0, hlt⟩
    have hlen := tail_len s
    have hrt : ∀ x ∈ (nums8 s).tail, 0 ≤ x ∧ x < 256 := fun x hx => nums8_range s x (List.mem_of_mem_tail hx)
    generalize ht : (nums8 s).tail = t at *
    have HG : Hid (∀ i, (h : i + 1 < s.size) → t[i]? = some (s[i + 1].toNat : Int)) := fun i h => by rw [← ht]; exact tail_get s i h
    obtain ⟨k, hk⟩ : ∃ k : Nat, b0 % 128 = k := ⟨_, rfl⟩
    have hres := getL_parts b0 k s.size t hk hlen hpos
    rw [← hcons] at hres
    have HLEN := Lib.hid hlen
    have HRT := Lib.hid hrt
    rw [hk] at han
    have HK := Lib.hid hk
    have hp0 : (0 : Int) < (s.size : Int) := by omega
    have HRES := Lib.hid hres
    generalize getL (nums8 s) = res at *
    clear hres ht hlen hrt hcons hk
    have hk127 : k ≤ 127 := by have := HK.out; omega
    by_cases h7 : 7 < k
    · by_cases h128 : 128 ≤ b0
      all_goals
        first | rw [if_pos h128] at had | rw [if_neg h128] at had
        go_enter Tryd.func22, Tryd.ntmps22
        go_wp2_with fail
        go_quiet (fail)
        go_wp2
        go_ret3
        exact ⟨ret_tup3 (by rw [HRES.out, if_pos (.inl h7)]), below_drewN (Below.refl _ _) _⟩
    by_cases hk0 : 128 ≤ b0 ∧ k = 0
    · obtain ⟨h128, rfl⟩ := hk0
      rw [if_pos h128] at had
      go_enter Tryd.func22, Tryd.ntmps22
      go_wp2_with fail
      go_quiet (fail)
      go_wp2
      go_ret3
      exact ⟨ret_tup3 (by rw [HRES.out, if_pos (.inr (by have := HK.out; omega))]), below_drewN (Below.refl _ _) _⟩
    have hnot : Hid (¬ (7 < k ∨ b0 = 128)) := by show ¬ _; have := HK.out; omega
    by_cases hsk : s.size ≤ k
    · by_cases h128 : 128 ≤ b0
      all_goals
        first | rw [if_pos h128] at had | rw [if_neg h128] at had
        first | (have hkz : ((k : Int) == 0) = false := (by rw [beq_eq_false_iff_ne]; omega)) | skip
        clear hk0
        go_enter Tryd.func22, Tryd.ntmps22
        go_wp2_with fail
        go_quiet (fail)
        go_wp2
        go_ret3
        exact ⟨ret_tup3 (by rw [HRES.out, if_neg hnot.out, if_pos hsk]), below_drewN (Below.refl _ _) _⟩
    by_cases h128 : 128 ≤ b0
    all_goals
      first | rw [if_pos h128] at had | rw [if_neg h128] at had
      first | (have hkz : ((k : Int) == 0) = false := (by rw [beq_eq_false_iff_ne]; omega)) | skip
      clear hk0
      go_enter Tryd.func22, Tryd.ntmps22
      go_wp2_with fail
      go_quiet (fail)
      go_wp2_with fail
      go_loop [7, 8] (fun nv iv => ∃ j : Nat, j ≤ k ∧ iv = .int .i64 ((j + 1 : Nat) : Int) ∧ nv = .int .i64 (beVal (t.take j))) (fun _ iv => 200 - (intOf iv).toNat)
      case atStart => exact ⟨0, by omega, rfl, rfl⟩
      case round =>
        obtain ⟨j, hj, rfl, rfl⟩ := hrel
        have hvb := beVal_bound (t.take j) (fun x hx => HRT.out x (List.mem_of_mem_take hx))
        by_cases hlt2 : j < k
        · have hx := HG.out j (by omega)
          have hxr := HRT.out _ (List.mem_of_getElem? hx)
          have hvs := beVal_take_succ t j _ hx
          have hlj : (t.take j).length ≤ 6 := by rw [List.length_take]; omega
          have hb6 : beVal (t.take j) < 281474976710656 := Int.lt_of_lt_of_le hvb.2 (by
            have h6 : (256 : Nat) ^ (t.take j).length ≤ 256 ^ 6 := Nat.pow_le_pow_right (by decide) hlj
            have e : (((256 : Nat) ^ (t.take j).length : Nat) : Int) = (256 : Int) ^ (t.take j).length := by rw [Int.natCast_pow]; rfl
            omega)
          obtain ⟨hv0, _⟩ := hvb
          have hor := i64_or8 (beVal (t.take j)) (s[j + 1].toNat : Int) hv0 (by omega) hxr.1 hxr.2
          have HVS := Lib.hid hvs
          generalize beVal (t.take j) = V at *
          clear hx hvs hlj
          have hj1 : (0 : Int) ≤ ((j + 1 : Nat) : Int) := by omega
          have hj2 : ((j + 1 : Nat) : Int) < (s.size : Int) := by omega
          go_wp2
          go_round
          case rel => exact ⟨j + 1, by omega, by go_num, by rw [HVS.out]⟩
          case measure => simp [intOf]; omega
        · obtain rfl : j = k := by omega
          have hlk : (t.take j).length = j := by rw [List.length_take, HLEN.out]; omega
          have hb7 : beVal (t.take j) < 72057594037927936 := Int.lt_of_lt_of_le hvb.2 (by
            have h6 : (256 : Nat) ^ (t.take j).length ≤ 256 ^ 7 := Nat.pow_le_pow_right (by decide) (by omega)
            have e : (((256 : Nat) ^ (t.take j).length : Nat) : Int) = (256 : Int) ^ (t.take j).length := by rw [Int.natCast_pow]; rfl
            omega)
          obtain ⟨hv0, _⟩ := hvb
          have hfin := HRES.out
          rw [if_neg hnot.out, if_neg hsk] at hfin
          first | rw [if_pos h128] at hfin | rw [if_neg h128] at hfin
          have HF := Lib.hid hfin
          clear hfin hlk
          generalize beVal (t.take j) = V at *
          by_cases hbig : 9007199254740992 < V
          · have hd : decide (9007199254740992 < V) = true := by simpa using hbig
            go_wp2
            go_ret3
            exact ⟨ret_tup3 (by rw [HF.out, if_pos (.inl hbig)]), below_drewN (Below.refl _ _) _⟩
          · have hd : decide (9007199254740992 < V) = false := by simpa using hbig
            by_cases hj0 : j = 0
            · subst hj0
              go_wp2
              go_ret3
              exact ⟨ret_tup3 (by rw [HF.out, if_neg (fun h => by rcases h with h | h <;> omega)]; simp), below_drewN (Below.refl _ _) _⟩
            · have hx1 : t[0]? = some (s[1].toNat : Int) := HG.out 0 (by omega)
              have hone : (1 : Int) < (s.size : Int) := by omega
              obtain ⟨x1, hx1e⟩ : ∃ x1 : Nat, s[1].toNat = x1 := ⟨_, rfl⟩
              rw [hx1e] at hx1
              have HX1 : Hid (t.head? = some (x1 : Int)) := by rw [List.head?_eq_getElem?]; exact hx1
              clear hx1
              have hjd : decide (0 < j) = true := by simp; omega
              by_cases hz : x1 = 0
              · subst hz
                go_wp2
                go_ret3
                exact ⟨ret_tup3 (by rw [HF.out, if_pos (.inr ⟨by omega, HX1.out⟩)]), below_drewN (Below.refl _ _) _⟩
              · have hzb : ((x1 : Int) == 0) = false := by rw [beq_eq_false_iff_ne]; omega
                go_wp2
                go_ret3
                exact ⟨ret_tup3 (by rw [HF.out, if_neg (fun h => h.elim (fun h => by omega) (fun h => by have := HX1.out.symm.trans h.2; simp only [Option.some.injEq] at this; omega))]), below_drewN (Below.refl _ _) _⟩

theorem rput_calls (n : Int) (w : World) :
    Calls Tryd.prog 23 #[.int .i64 n] w fun e w' => e = .returned (.string (strOfNums (putL n))) ∧ Below w.heap.size w w' := by
  by_cases h : n < -9007199254740992 ∨ 9007199254740992 < n
  · exact rput_out n w h
  · exact rput_in n w (by omega) (by omega)

set_option maxHeartbeats 2000000 in
theorem str_cmp {a l : List Int} {b : ByteArray} {P : Prop} [Decidable P] (ha : ∀ x ∈ a, 0 ≤ x ∧ x < 256) (hb : nums8 b = l) (h : a = l ↔ ¬ P) : (!(strOfNums a).toList == b.toList) = decide P := by
  rw [str_eq_iff, nums8_strOfNums _ ha, hb, decide_eq_decide.mpr h]
  by_cases hp : P
  · rw [decide_eq_false (fun h => h hp), decide_eq_true hp]; rfl
  · rw [decide_eq_true hp, decide_eq_false hp]; rfl
theorem rget_calls (s : ByteArray) (w : World) (hs : s.size ≤ 9223372036854775807) :
    Calls Tryd.prog 24 #[.string s] w fun e w' => e = .returned (tup3 (getL (nums8 s))) ∧ Below w.heap.size w w' := by
  by_cases h0 : s.size = 0
  · have hz : s = ⟨#[]⟩ := by
      apply WideShapes.bytes_inj
      exact List.eq_nil_of_length_eq_zero (by simpa using h0)
    subst hz
    go_enter Tryd.func24, Tryd.ntmps24
    go_wp2
    go_ret3
    exact ⟨rfl, Below.refl _ _⟩
  · have hpos : 0 < s.size := by omega
    have hie := isEmpty_false s h0
    have hcons := nums8_cons s hpos
    obtain ⟨b0, hb0⟩ : ∃ b0 : Nat, s[0].toNat = b0 := ⟨_, rfl⟩
    have hlt := (s[0]'hpos).toNat_lt
    rw [hb0] at hcons hlt
    clear h0
    have hlen := tail_len s
    have hrt : ∀ x ∈ (nums8 s).tail, 0 ≤ x ∧ x < 256 := fun x hx => nums8_range s x (List.mem_of_mem_tail hx)
    have hall := nums8_range s
    generalize ht : (nums8 s).tail = t at *
    have HG : Hid (∀ i, (h : i + 1 < s.size) → t[i]? = some (s[i + 1].toNat : Int)) := fun i h => by rw [← ht]; exact tail_get s i h
    obtain ⟨k, hk⟩ : ∃ k : Nat, b0 % 128 = k := ⟨_, rfl⟩
    have hres := getL_parts b0 k s.size t hk hlen hpos
    rw [hcons] at hall
    have hput := fun (h1 : ¬ (7 < k ∨ b0 = 128)) (h2 : ¬ s.size ≤ k) => put_iff_get (b0 : Int) t hall (by omega) (by omega)
    have hkb : (b0 : Int) % 128 = (k : Int) := by omega
    have c3 : (0 < (k : Int)) ↔ 0 < k := by omega
    have c4 : (127 < (b0 : Int)) ↔ 128 ≤ b0 := by omega
    simp only [hkb, Int.toNat_natCast, c3, c4, ← hcons] at hput
    clear hkb c3 c4
    rw [← hcons] at hres
    have HLEN := Lib.hid hlen
    have HRT := Lib.hid hrt
    have HPUT := Lib.hid hput
    have HK := Lib.hid hk
    have hmod : (b0 : Int) % 128 = (k : Int) := by omega
    have hp0 : (0 : Int) < (s.size : Int) := by omega
    have HRES := Lib.hid hres
    have HEX : Hid (∀ j, nums8 (s.extract 0 j) = (nums8 s).take j) := fun j => by rw [nums8_extract]; simp
    have HPR := Lib.hid (fun n => putL_range n)
    generalize getL (nums8 s) = res at *
    clear hres ht hlen hrt hcons hk hput hall
    have hk127 : k ≤ 127 := by have := HK.out; omega
    by_cases h7 : 7 < k
    · have hd : decide (7 < k) = true := by simpa using h7
      go_enter Tryd.func24, Tryd.ntmps24
      go_wp2
      go_ret3
      exact ⟨ret_tup3 (by rw [HRES.out, if_pos (.inl h7)]), Below.refl _ _⟩
    have hd7 : decide (7 < k) = false := by simpa using h7
    by_cases hk0 : b0 = 128
    · have hd : ((b0 : Int) == 128) = true := by rw [beq_iff_eq]; omega
      go_enter Tryd.func24, Tryd.ntmps24
      go_wp2
      go_ret3
      exact ⟨ret_tup3 (by rw [HRES.out, if_pos (.inr hk0)]), Below.refl _ _⟩
    have hd128 : ((b0 : Int) == 128) = false := by rw [beq_eq_false_iff_ne]; omega
    have hnot : Hid (¬ (7 < k ∨ b0 = 128)) := by show ¬ _; omega
    by_cases hsk : s.size ≤ k
    · go_enter Tryd.func24, Tryd.ntmps24
      go_wp2
      go_ret3
      exact ⟨ret_tup3 (by rw [HRES.out, if_neg hnot.out, if_pos hsk]), Below.refl _ _⟩
    have HPUT2 := Lib.hid (HPUT.out hnot.out hsk)
    go_enter Tryd.func24, Tryd.ntmps24
    go_wp2_with fail
    go_loop [6, 7] (fun nv iv => ∃ j : Nat, j ≤ k ∧ iv = .int .i64 ((j + 1 : Nat) : Int) ∧ nv = .int .i64 (beVal (t.take j))) (fun _ iv => 200 - (intOf iv).toNat)
    case atStart => exact ⟨0, by omega, rfl, rfl⟩
    case round =>
      obtain ⟨j, hj, rfl, rfl⟩ := hrel
      have hvb := beVal_bound (t.take j) (fun x hx => HRT.out x (List.mem_of_mem_take hx))
      by_cases hlt2 : j < k
      · have hx := HG.out j (by omega)
        have hxr := HRT.out _ (List.mem_of_getElem? hx)
        have hvs := beVal_take_succ t j _ hx
        have hlj : (t.take j).length ≤ 6 := by rw [List.length_take]; omega
        have hb6 : beVal (t.take j) < 281474976710656 := Int.lt_of_lt_of_le hvb.2 (by
          have h6 : (256 : Nat) ^ (t.take j).length ≤ 256 ^ 6 := Nat.pow_le_pow_right (by decide) hlj
          have e : (((256 : Nat) ^ (t.take j).length : Nat) : Int) = (256 : Int) ^ (t.take j).length := by rw [Int.natCast_pow]; rfl
          omega)
        obtain ⟨hv0, _⟩ := hvb
        have HVS := Lib.hid hvs
        generalize beVal (t.take j) = V at *
        clear hx hvs hlj
        obtain ⟨hx0, hx2⟩ := hxr
        have hj1 : (0 : Int) ≤ ((j + 1 : Nat) : Int) := by omega
        have hj2 : ((j + 1 : Nat) : Int) < (s.size : Int) := by omega
        go_wp2
        go_round
        case rel => exact ⟨j + 1, by omega, by go_num, by rw [HVS.out]⟩
        case measure => simp [intOf]; omega
      · obtain rfl : j = k := by omega
        have hb7 : beVal (t.take j) < 72057594037927936 := Int.lt_of_lt_of_le hvb.2 (by
          have h6 : (256 : Nat) ^ (t.take j).length ≤ 256 ^ 7 := Nat.pow_le_pow_right (by decide) (by rw [List.length_take]; omega)
          have e : (((256 : Nat) ^ (t.take j).length : Nat) : Int) = (256 : Int) ^ (t.take j).length := by rw [Int.natCast_pow]; rfl
          omega)
        obtain ⟨hv0, _⟩ := hvb
        have hfin := HRES.out
        rw [if_neg hnot.out, if_neg hsk] at hfin
        have hp := HPUT2.out
        by_cases h128 : 128 ≤ b0
        all_goals
          first | rw [if_pos h128] at hfin hp | rw [if_neg h128] at hfin hp
          have HF := Lib.hid hfin
          have HP := Lib.hid hp
          clear hfin hp
          generalize beVal (t.take j) = V at *
          go_wp2_with fail
          have q1 : IntKind.i64.wrap ((j : Int) + 1) = (j : Int) + 1 := by rw [IntKind.wrap_i64]; omega
          have q2 : (0 : Int) ≤ (j : Int) + 1 := by omega
          have q3 : ((j : Int) + 1).toNat = j + 1 := by omega
          have q4 : (j : Int) + 1 ≤ (s.size : Int) := by omega
          have q5 : j + 1 ≤ s.size := by omega
          go_region_held3 (fun _ => True) (trivial) ((go_at_call 23; refine (rput_calls _ _).mono ?_; rintro e w' ⟨rfl, hb⟩))
          have hT := str_cmp (HPR.out _) (HEX.out (j + 1)) HP.out
          have hT2 : (9007199254740992 < V ∨ 0 < j ∧ t.head? = some 0) ∨ ¬ (9007199254740992 < V ∨ 0 < j ∧ t.head? = some 0) := Decidable.em _
          have hF := HF.out
          clear HF HP HPUT HPUT2 HRES
          rcases hT2 with hc | hc
          · rw [if_pos hc] at hF
            rw [decide_eq_true hc] at hT
            clear hc
            go_wp2
            all_goals first
              | (exfalso; rename_i hh; exact absurd (hT.symm.trans hh) (by decide))
              | (go_ret3; exact ⟨ret_tup3 hF, ((Below.refl _ _).drew).trans hb⟩)
          · rw [if_neg hc] at hF
            rw [decide_eq_false hc] at hT
            clear hc
            go_wp2
            all_goals first
              | (exfalso; rename_i hh; exact absurd (hT.symm.trans hh) (by decide))
              | (go_ret3; exact ⟨ret_tup3 hF, ((Below.refl _ _).drew).trans hb⟩)
end Go.Proofs.YtmmcigpbajlneaaDoor
